/- math/big's nat: rows of words of the call's own; make, norm. -/
import Derived.Test.YtopilodakphhgaaDoorAccFit
import Derived.Laws.MakeOwn
import Derived.Laws.BitsAllLaws
import Derived.BigRegion
import Derived.RegionTactic
import Derived.Outline
namespace Go.Proofs.YtopilodakphhgaaDoor
set_option linter.unusedVariables false
set_option linter.unusedSimpArgs false
open Go Go.RowKit
set_option maxRecDepth 100000
/-- Block g is a row of cap words, of which those from lo on, below hi, are F's. -/
def Vec (w : World) (g cap lo hi : Nat) (F : Nat → Nat) : Prop :=
  ∃ cur, w.heap[g]? = some (.cells cur 102 (0, 0)) ∧ cur.size = cap ∧ ∀ j, lo ≤ j → j < hi → cur[j]? = some (.int .u64 (F j : Nat))
theorem Vec.cell {w : World} {g cap lo hi : Nat} {F : Nat → Nat} (h : Vec w g cap lo hi F) (j : Nat) (h1 : lo ≤ j) (h2 : j < hi) : w.cell? ⟨g, j, none⟩ = some (.int .u64 (F j : Nat)) := by
  obtain ⟨cur, hc, _, hv⟩ := h
  rw [cell_of_row w g j _ _ _ hc]
  exact hv j h1 h2
theorem Vec.some {w : World} {g cap lo hi : Nat} {F : Nat → Nat} (h : Vec w g cap lo hi F) (j : Nat) (hj : j < cap) : ∃ v, w.cell? ⟨g, j, none⟩ = some v := by
  obtain ⟨cur, hc, hs, _⟩ := h
  rw [cell_of_row w g j _ _ _ hc]
  exact ⟨cur[j]'(by omega), Array.getElem?_eq_getElem _⟩
theorem Vec.free {w : World} {g cap lo hi : Nat} {F : Nat → Nat} (h : Vec w g cap lo hi F) (j : Nat) : w.frozen? ⟨g, j, none⟩ = false := by
  obtain ⟨cur, hc, _, _⟩ := h
  exact frozen_of_row w g j _ _ hc
theorem Vec.lt {w : World} {g cap lo hi : Nat} {F : Nat → Nat} (h : Vec w g cap lo hi F) : g < w.heap.size := by
  obtain ⟨cur, hc, _, _⟩ := h
  exact (Array.getElem?_eq_some_iff.1 hc).1
theorem Vec.heap {w w1 : World} {g cap lo hi : Nat} {F : Nat → Nat} (h : Vec w g cap lo hi F) (hb : w1.heap[g]? = w.heap[g]?) : Vec w1 g cap lo hi F := by
  obtain ⟨cur, hc, hs, hv⟩ := h
  exact ⟨cur, hb.trans hc, hs, hv⟩
theorem Vec.below {w w1 : World} {g cap lo hi : Nat} {F : Nat → Nat} (h : Vec w g cap lo hi F) (hb : Below w.heap.size w w1) : Vec w1 g cap lo hi F := h.heap (hb.block g h.lt)
theorem Vec.grown {w w1 : World} {g cap lo hi : Nat} {F : Nat → Nat} {row : Option Nat} (h : Vec w g cap lo hi F) (hg : w.grownBy w1 row) (hr : Option.some g ≠ row) : Vec w1 g cap lo hi F := h.heap (hg.block g h.lt hr)
theorem Vec.weaken {w : World} {g cap lo hi lo' hi' : Nat} {F F' : Nat → Nat} (h : Vec w g cap lo hi F) (h1 : lo ≤ lo') (h2 : hi' ≤ hi) (h3 : ∀ j, lo' ≤ j → j < hi' → F j = F' j) : Vec w g cap lo' hi' F' := by
  obtain ⟨cur, hc, hs, hv⟩ := h
  exact ⟨cur, hc, hs, fun j a b => by rw [hv j (by omega) (by omega), h3 j a b]⟩
theorem Vec.weaken' {w : World} {g cap lo hi lo' hi' : Nat} {F F' : Nat → Nat} (h : Vec w g cap lo hi F) (h3 : ∀ j, lo' ≤ j → j < hi' → lo ≤ j ∧ j < hi ∧ F j = F' j) : Vec w g cap lo' hi' F' := by
  obtain ⟨cur, hc, hs, hv⟩ := h
  exact ⟨cur, hc, hs, fun j a b => by obtain ⟨c1, c2, c3⟩ := h3 j a b; rw [hv j c1 c2, c3]⟩
/-- A store: the cells that are known, and the one that is stored. -/
theorem Vec.set {w : World} {g cap lo hi lo' hi' : Nat} {F F' : Nat → Nat} (h : Vec w g cap lo hi F) (k u : Nat) (hk : k < cap) (hu : u = F' k) (hF : ∀ j, lo' ≤ j → j < hi' → j ≠ k → lo ≤ j ∧ j < hi ∧ F j = F' j) :
    Vec (w.setCell ⟨g, k, none⟩ (.int .u64 (u : Nat))) g cap lo' hi' F' := by
  obtain ⟨cur, hc, hs, hv⟩ := h
  refine ⟨cur.setIfInBounds k (.int .u64 (u : Nat)), heap_setCell_same w g k _ _ _ hc, by simpa using hs, fun j a b => ?_⟩
  rw [Array.getElem?_setIfInBounds]
  by_cases hj : k = j
  · subst hj
    rw [if_pos rfl, if_pos (by omega), hu]
  · rw [if_neg hj]
    obtain ⟨c1, c2, c3⟩ := hF j a b (fun e => hj e.symm)
    rw [hv j c1 c2, c3]
theorem grown_set {w wr : World} {g : Nat} (h : w.grownBy wr (Option.some g)) (k : Nat) (v : Value) : w.grownBy (wr.setCell ⟨g, k, none⟩ v) (Option.some g) :=
  ⟨h.os, h.tape, h.output, by
    have := h.size
    rw [show (wr.setCell ⟨g, k, none⟩ v).heap.size = wr.heap.size by simp [World.setCell]]
    exact this, fun j hj hr => (heap_setCell_other wr ⟨g, k, none⟩ j _ (fun e => hr (by rw [e]))).trans (h.block j hj hr)⟩
theorem grown_refl (w : World) (row : Option Nat) : w.grownBy w row := ⟨rfl, rfl, rfl, Nat.le_refl _, fun _ _ _ => rfl⟩
/-- What was made behind w's blocks, and written there alone. -/
theorem below_of_grown {w w1 : World} {g : Nat} (h : w.grownBy w1 (Option.some g)) (hg : w.heap.size ≤ g) : Below w.heap.size w w1 :=
  ⟨h.os, h.tape, h.output, h.size, fun k hk => h.block k hk (fun e => by injection e with e; omega)⟩
/-- c words, all 0. -/
def zeroWords (c : Nat) : Array Value := madeCells (Value.int .u64 0).cells (c * 1)
theorem zeroWords_size (c : Nat) : (zeroWords c).size = c := by unfold zeroWords; rw [size_madeCells, Nat.mul_one]
theorem zeroWords_get (c j : Nat) (h : j < c) : (zeroWords c)[j]? = Option.some (.int .u64 (0 : Nat)) := by
  unfold zeroWords madeCells
  simp [Value.cells, h, Nat.mod_one]
theorem Vec.made (w : World) (c : Nat) : Vec (w.alloc (.cells (zeroWords c) 102)) w.heap.size c 0 c (fun _ => 0) :=
  ⟨_, heap_alloc_new w _, zeroWords_size c, fun j _ hj => zeroWords_get c j hj⟩
theorem infoW : (Tryd.prog.info? 102).map (fun i => (i.zero, i.size, i.bytes)) = Option.some (Option.some (.int .u64 0), 1, 8) := by kernel_rfl
theorem run_make_nat (n c : Int) (h0 : 0 ≤ n) (h1 : n ≤ c) (h2 : c ≤ 1000000) (w : World) :
    (Instr.makeSlice 84 (.int .i64 n) (.int .i64 c)).run Tryd.prog w = .ok (.slice (Option.some ⟨w.heap.size, 0, none⟩) n.toNat c.toNat) (w.alloc (.cells (zeroWords c.toNat) 102)) := by
  obtain ⟨i0, hi, hz0, hz1, hz2⟩ := info_parts infoW
  have := run_make (P := Tryd.prog) w 84 102 i0 _ Tryd.underlying84 hi hz0 .i64 .i64 n c h0 h1 (by rw [hz2]; omega) (by omega)
  rw [hz1] at this
  exact this
theorem make_nil (n : Nat) (h0 : 0 < n) (h1 : n ≤ 100000) (w : World) :
    Calls Tryd.prog 78 #[.slice none 0 0, .int .i64 (n : Nat)] w fun e w' => ∃ cap, n ≤ cap ∧ cap ≤ n + 4 ∧ e = .returned (.slice (Option.some ⟨w.heap.size, 0, none⟩) n cap) ∧ w.alloc (.cells (zeroWords cap) 102) = w' := by
  have hq : decide ((n : Int) ≤ 0) = false := by simp; omega
  by_cases hn : n = 1
  · subst hn
    have hm := run_make_nat 1 1 (by decide) (by decide) (by decide)
    go_enter Tryd.func78, Tryd.ntmps78
    go_wp2
    go_ret
    exact ⟨1, Nat.le_refl _, by omega, rfl, rfl⟩
  · have hn' : ((n : Int) == 1) = false := by rw [beq_eq_false_iff_ne]; omega
    have hm := run_make_nat (n : Int) ((n : Int) + 4) (by omega) (by omega) (by omega)
    rw [show ((n : Int) + 4).toNat = n + 4 by omega, show ((n : Int)).toNat = n by omega] at hm
    go_enter Tryd.func78, Tryd.ntmps78
    go_wp2
    go_ret
    exact ⟨n + 4, by omega, Nat.le_refl _, rfl, rfl⟩
/-- How many words M has. -/
def NormLen (n M : Nat) : Prop := M < B64 ^ n ∧ (0 < n → B64 ^ (n - 1) ≤ M)
theorem norm_step (k M : Nat) (h : M < B64 ^ (k + 1)) (hz : wd M k = 0) : M < B64 ^ k := by
  have h1 := wd_add M k
  rw [hz, Nat.zero_mul, Nat.add_zero, Nat.mod_eq_of_lt h] at h1
  rw [h1]
  exact Nat.mod_lt _ (Bpow_pos k)
theorem norm_stop (k M : Nat) (hz : wd M k ≠ 0) : B64 ^ k ≤ M := by
  by_cases h : B64 ^ k ≤ M
  · exact h
  · exfalso
    apply hz
    unfold wd
    rw [Nat.div_eq_of_lt (by omega)]
    rfl
set_option maxHeartbeats 1000000 in
theorem norm_row (w : World) (g n cap M : Nat) (h : Vec w g cap 0 n (wd M)) (hM : M < B64 ^ n) (hn : n ≤ cap) (hc : cap ≤ 1000000) :
    Calls Tryd.prog 81 #[.slice (Option.some ⟨g, 0, none⟩) n cap] w fun e w' => (∃ k, k ≤ n ∧ NormLen k M ∧ e = .returned (.slice (Option.some ⟨g, 0, none⟩) k cap)) ∧ w = w' := by
  go_enter Tryd.func81, Tryd.ntmps81
  go_wp2_with fail
  go_loop [3] (fun i => ∃ k : Nat, k ≤ n ∧ M < B64 ^ k ∧ i = .int .i64 k) (fun i => (intOf i).toNat)
  case atStart => exact ⟨n, Nat.le_refl _, hM, rfl⟩
  case round =>
    obtain ⟨k, hk, hMk, rfl⟩ := hrel
    have HM := Lib.hid hMk
    clear hMk
    by_cases h0 : k = 0
    · subst h0
      go_wp2_with fail
      go_ret
      exact ⟨⟨0, hk, ⟨HM.out, fun h => absurd h (Nat.lt_irrefl 0)⟩, rfl⟩, rfl⟩
    · obtain ⟨j, rfl⟩ : ∃ j, k = j + 1 := ⟨k - 1, by omega⟩
      have hcell := h.cell j (Nat.zero_le _) (by omega)
      by_cases hz : wd M j = 0
      · have hz' : (((wd M j : Nat) : Int) == 0) = true := by rw [beq_iff_eq]; omega
        have Hz := Lib.hid hz
        clear hz
        go_wp2_with fail
        go_round
        case rel => exact ⟨j, by omega, norm_step j M HM.out Hz.out, by go_num⟩
        case measure => simp [intOf]
      · have hz' : (((wd M j : Nat) : Int) == 0) = false := by rw [beq_eq_false_iff_ne]; omega
        have Hz := Lib.hid hz
        clear hz
        go_wp2_with fail
        go_ret
        exact ⟨⟨j + 1, hk, ⟨HM.out, fun _ => norm_stop j M Hz.out⟩, rfl⟩, rfl⟩
end Go.Proofs.YtopilodakphhgaaDoor
