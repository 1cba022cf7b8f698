/- ambitref2: rows of 32-bit limbs; trim. ambitref2: length, word, Sign, Size, Moved, Length. ambitref2.left: a row of limbs shifted up. ambitref2.Of: a float's number. -/
import Derived.Test.YtopilodakphhgaaGreatDoorNatLow
import Derived.Test.YtopilodakphhgaaGreatDoorIntLow
import Derived.Test.YtopilodakphhgaaGreatDoorTold
import Derived.Handy
namespace Go.Proofs.YtopilodakphhgaaGreatDoor
set_option linter.unusedVariables false
set_option linter.unusedSimpArgs false
open Go Go.RowKit
set_option maxRecDepth 100000
def W32 : Nat := 4294967296
theorem W32_pos : 0 < W32 := by decide
theorem W32_pow (i : Nat) : 0 < W32 ^ i := Nat.pow_pos W32_pos
theorem W32_two (i : Nat) : W32 ^ i = 2 ^ (32 * i) := by rw [Nat.pow_mul]; rfl
/-- Limb i. -/
def dg (M i : Nat) : Nat := M / W32 ^ i % W32
theorem dg_lt (M i : Nat) : dg M i < W32 := Nat.mod_lt _ W32_pos
theorem dg_le (M i : Nat) : dg M i ≤ 4294967295 := by have := dg_lt M i; unfold W32 at this; omega
theorem dg_add (M i : Nat) : M % W32 ^ (i + 1) = M % W32 ^ i + dg M i * W32 ^ i := by
  unfold dg
  rw [Nat.pow_succ, Nat.mod_mul, Nat.mul_comm (W32 ^ i)]
/-- Block g is a row of cap limbs, of which those from lo on, below hi, are F's. -/
def V32 (w : World) (g cap lo hi : Nat) (F : Nat → Nat) : Prop :=
  ∃ cur, w.heap[g]? = some (.cells cur 68 (0, 0)) ∧ cur.size = cap ∧ ∀ j, lo ≤ j → j < hi → cur[j]? = some (.int .u32 (F j : Nat))
section
variable {w w1 : World} {g cap lo hi lo' hi' : Nat} {F F' : Nat → Nat}
theorem V32.cell (h : V32 w g cap lo hi F) (j : Nat) (h1 : lo ≤ j) (h2 : j < hi) : w.cell? ⟨g, j, none⟩ = some (.int .u32 (F j : Nat)) := by
  obtain ⟨cur, hc, _, hv⟩ := h
  rw [cell_of_row w g j _ _ _ hc]
  exact hv j h1 h2
theorem V32.some (h : V32 w g cap lo hi F) (j : Nat) (hj : j < cap) : ∃ v, w.cell? ⟨g, j, none⟩ = some v := by
  obtain ⟨cur, hc, hs, _⟩ := h
  rw [cell_of_row w g j _ _ _ hc]
  exact ⟨cur[j]'(by omega), Array.getElem?_eq_getElem _⟩
theorem V32.free (h : V32 w g cap lo hi F) (j : Nat) : w.frozen? ⟨g, j, none⟩ = false := by
  obtain ⟨cur, hc, _, _⟩ := h
  exact frozen_of_row w g j _ _ hc
theorem V32.lt (h : V32 w g cap lo hi F) : g < w.heap.size := by
  obtain ⟨cur, hc, _, _⟩ := h
  exact (Array.getElem?_eq_some_iff.1 hc).1
theorem V32.heap (h : V32 w g cap lo hi F) (hb : w1.heap[g]? = w.heap[g]?) : V32 w1 g cap lo hi F := by
  obtain ⟨cur, hc, hs, hv⟩ := h
  exact ⟨cur, hb.trans hc, hs, hv⟩
theorem V32.below (h : V32 w g cap lo hi F) (hb : Below w.heap.size w w1) : V32 w1 g cap lo hi F := h.heap (hb.block g h.lt)
theorem V32.grown {row : Option Nat} (h : V32 w g cap lo hi F) (hg : w.grownBy w1 row) (hr : Option.some g ≠ row) : V32 w1 g cap lo hi F := h.heap (hg.block g h.lt hr)
theorem V32.weaken (h : V32 w g cap lo hi F) (h3 : ∀ j, lo' ≤ j → j < hi' → lo ≤ j ∧ j < hi ∧ F j = F' j) : V32 w g cap lo' hi' F' := by
  obtain ⟨cur, hc, hs, hv⟩ := h
  exact ⟨cur, hc, hs, fun j a b => by obtain ⟨c1, c2, c3⟩ := h3 j a b; rw [hv j c1 c2, c3]⟩
/-- A store: the cells that are known, and the one that is stored. -/
theorem V32.set (h : V32 w g cap lo hi F) (k u : Nat) (hk : k < cap) (hu : u = F' k) (hF : ∀ j, lo' ≤ j → j < hi' → j ≠ k → lo ≤ j ∧ j < hi ∧ F j = F' j) :
    V32 (w.setCell ⟨g, k, none⟩ (.int .u32 (u : Nat))) g cap lo' hi' F' := by
  obtain ⟨cur, hc, hs, hv⟩ := h
  refine ⟨cur.setIfInBounds k (.int .u32 (u : Nat)), heap_setCell_same w g k _ _ _ hc, by simpa using hs, fun j a b => ?_⟩
  rw [Array.getElem?_setIfInBounds]
  by_cases hj : k = j
  · subst hj
    rw [if_pos rfl, if_pos (by omega), hu]
  · rw [if_neg hj]
    obtain ⟨c1, c2, c3⟩ := hF j a b (fun e => hj e.symm)
    rw [hv j c1 c2, c3]
end
/-- c limbs, all 0. -/
def zero32 (c : Nat) : Array Value := madeCells (Value.int .u32 0).cells (c * 1)
theorem zero32_size (c : Nat) : (zero32 c).size = c := by unfold zero32; rw [size_madeCells, Nat.mul_one]
theorem zero32_get (c j : Nat) (h : j < c) : (zero32 c)[j]? = Option.some (.int .u32 (0 : Nat)) := by
  unfold zero32 madeCells
  simp [Value.cells, h, Nat.mod_one]
theorem V32.made (w : World) (c : Nat) : V32 (w.alloc (.cells (zero32 c) 68)) w.heap.size c 0 c (fun _ => 0) :=
  ⟨_, heap_alloc_new w _, zero32_size c, fun j _ hj => zero32_get c j hj⟩
theorem info32 : (Tryz.prog.info? 68).map (fun i => (i.zero, i.size, i.bytes)) = Option.some (Option.some (.int .u32 0), 1, 4) := by kernel_rfl
theorem run_make_32 (n c : Int) (h0 : 0 ≤ n) (h1 : n ≤ c) (h2 : c ≤ 1000000) (w : World) :
    (Instr.makeSlice 27 (.int .i64 n) (.int .i64 c)).run Tryz.prog w = .ok (.slice (Option.some ⟨w.heap.size, 0, none⟩) n.toNat c.toNat) (w.alloc (.cells (zero32 c.toNat) 68)) := by
  obtain ⟨i0, hi, hz0, hz1, hz2⟩ := info_parts info32
  have := run_make (P := Tryz.prog) w 27 68 i0 _ Tryz.underlying27 hi hz0 .i64 .i64 n c h0 h1 (by rw [hz2]; omega) (by omega)
  rw [hz1] at this
  exact this
/-- How many limbs M has. -/
def NL32 (n M : Nat) : Prop := M < W32 ^ n ∧ (0 < n → W32 ^ (n - 1) ≤ M)
theorem nl32_step (k M : Nat) (h : M < W32 ^ (k + 1)) (hz : dg M k = 0) : M < W32 ^ k := by
  have h1 := dg_add M k
  rw [hz, Nat.zero_mul, Nat.add_zero, Nat.mod_eq_of_lt h] at h1
  rw [h1]
  exact Nat.mod_lt _ (W32_pow k)
theorem nl32_stop (k M : Nat) (hz : dg M k ≠ 0) : W32 ^ k ≤ M := by
  by_cases h : W32 ^ k ≤ M
  · exact h
  · exfalso
    apply hz
    unfold dg
    rw [Nat.div_eq_of_lt (by omega)]
    rfl
/-- The value is a row of M's limbs, the highest not 0; or nil, of 0. -/
def MagIs (w : World) (v : Value) (M : Nat) : Prop := (v = .slice none 0 0 ∧ M = 0) ∨ ∃ g n cap, v = .slice (some ⟨g, 0, none⟩) n cap ∧ n ≤ cap ∧ cap ≤ 1000000 ∧ NL32 n M ∧ V32 w g cap 0 n (dg M)
theorem MagIs.below {w w1 : World} {v : Value} {M : Nat} (h : MagIs w v M) (hb : Below w.heap.size w w1) : MagIs w1 v M := by
  rcases h with h | ⟨g, n, cap, h1, h2, h3, h4, h5⟩
  · exact Or.inl h
  · exact Or.inr ⟨g, n, cap, h1, h2, h3, h4, h5.below hb⟩
theorem MagIs.heap {w w1 : World} {v : Value} {M : Nat} (h : MagIs w v M) (hb : w1.heap = w.heap) : MagIs w1 v M := by
  rcases h with h | ⟨g, n, cap, h1, h2, h3, h4, h5⟩
  · exact Or.inl h
  · exact Or.inr ⟨g, n, cap, h1, h2, h3, h4, h5.heap (by rw [hb])⟩
theorem nl32_zero (n M : Nat) (h : NL32 n M) : n = 0 ↔ M = 0 := by
  constructor
  · intro e
    have := h.1
    rw [e, Nat.pow_zero] at this
    omega
  · intro e
    refine Nat.eq_zero_of_not_pos fun hp => ?_
    have h1 := h.2 hp
    have h2 := W32_pow (n - 1)
    omega
set_option maxHeartbeats 1000000 in
theorem trim_row (w : World) (g n cap M : Nat) (h : V32 w g cap 0 n (dg M)) (hM : M < W32 ^ n) (hn : n ≤ cap) (hc : cap ≤ 1000000) :
    Calls Tryz.prog 31 #[.slice (Option.some ⟨g, 0, none⟩) n cap] w fun e w' => (∃ k, k ≤ n ∧ NL32 k M ∧ e = .returned (.slice (Option.some ⟨g, 0, none⟩) k cap)) ∧ w' = w := by
  go_enter Tryz.func31, Tryz.ntmps31
  go_wp2_with fail
  go_loop [3] (fun i => ∃ k : Nat, k ≤ n ∧ M < W32 ^ k ∧ i = .int .i64 k) (fun i => (intOf i).toNat)
  case atStart => exact ⟨n, Nat.le_refl _, hM, rfl⟩
  case round =>
    obtain ⟨k, hk, hMk, rfl⟩ := hrel
    have HM := Lib.hid hMk
    clear hMk
    by_cases h0 : k = 0
    · subst h0
      go_wp2_with fail
      go_ret
      exact ⟨⟨0, hk, ⟨HM.out, fun h => absurd h (Nat.lt_irrefl 0)⟩, rfl⟩, rfl⟩
    · obtain ⟨j, rfl⟩ : ∃ j, k = j + 1 := ⟨k - 1, by omega⟩
      have hcell := h.cell j (Nat.zero_le _) (by omega)
      by_cases hz : dg M j = 0
      · have hz' : (((dg M j : Nat) : Int) == 0) = true := by rw [beq_iff_eq]; omega
        have Hz := Lib.hid hz
        clear hz
        go_wp2_with fail
        go_round
        case rel => exact ⟨j, by omega, nl32_step j M HM.out Hz.out, by go_num⟩
        case measure => simp [intOf]
      · have hz' : (((dg M j : Nat) : Int) == 0) = false := by rw [beq_eq_false_iff_ne]; omega
        have Hz := Lib.hid hz
        clear hz
        go_wp2_with fail
        go_ret
        exact ⟨⟨j + 1, hk, ⟨HM.out, fun _ => nl32_stop j M Hz.out⟩, rfl⟩, rfl⟩
set_option linter.unusedVariables false
set_option linter.unusedSimpArgs false
open Go Go.RowKit
set_option maxRecDepth 100000
theorem blen_32 (M n L : Nat) (h : M / W32 ^ n < W32) (hL : IsLen L (M / W32 ^ n)) (h0 : 0 < L) : IsLen (32 * n + L) M := by
  have h1 := hL.1
  have h2 := hL.2 h0
  have hp := W32_pow n
  constructor
  · rw [Nat.pow_add, ← W32_two]
    have := Nat.lt_mul_div_succ M hp
    have h3 : W32 ^ n * (M / W32 ^ n + 1) ≤ W32 ^ n * 2 ^ L := Nat.mul_le_mul_left _ h1
    omega
  · intro _
    rw [show 32 * n + L - 1 = 32 * n + (L - 1) by omega, Nat.pow_add, ← W32_two]
    have h3 : W32 ^ n * 2 ^ (L - 1) ≤ W32 ^ n * (M / W32 ^ n) := Nat.mul_le_mul_left _ h2
    have h4 := Nat.mul_div_le M (W32 ^ n)
    omega
theorem dg_top (M n : Nat) (h : M < W32 ^ (n + 1)) : dg M n = M / W32 ^ n := by
  unfold dg
  rw [Nat.mod_eq_of_lt]
  rw [Nat.div_lt_iff_lt_mul (W32_pow n), Nat.mul_comm, ← Nat.pow_succ]
  exact h
theorem half_pow (T j : Nat) : T / 2 ^ j / 2 = T / 2 ^ (j + 1) := by rw [Nat.div_div_eq_div_mul, ← Nat.pow_succ]
set_option maxHeartbeats 1000000 in
theorem length_any (w : World) (v : Value) (M : Nat) (h : MagIs w v M) :
    Calls Tryz.prog 65 #[v] w fun e w' => e = .returned (.int .i64 (blen M : Nat)) ∧ w' = w := by
  rcases h with ⟨rfl, rfl⟩ | ⟨g, n, cap, rfl, hn, hc, hl, hv⟩
  · go_enter Tryz.func65, Tryz.ntmps65
    go_wp2_with fail
    go_ret
    have : blen 0 = 0 := (isLen_blen 0).unique IsLen.zero
    rw [this]
    exact ⟨rfl, rfl⟩
  · by_cases h0 : n = 0
    · subst h0
      have hM := (nl32_zero 0 M hl).1 rfl
      subst hM
      go_enter Tryz.func65, Tryz.ntmps65
      go_wp2_with fail
      go_ret
      have : blen 0 = 0 := (isLen_blen 0).unique IsLen.zero
      rw [this]
      exact ⟨rfl, rfl⟩
    · obtain ⟨m, rfl⟩ : ∃ m, n = m + 1 := ⟨n - 1, by omega⟩
      have hn0 : (((m + 1 : Nat) : Int) == 0) = false := by rw [beq_eq_false_iff_ne]; omega
      have hn1 : ((m : Int) + 1 == 0) = false := by rw [beq_eq_false_iff_ne]; omega
      have hcell := hv.cell m (Nat.zero_le _) (by omega)
      have hT := dg_top M m hl.1
      have hTl := dg_le M m
      have hT1 : 0 < dg M m := by
        rw [hT]
        have := hl.2 (by omega)
        exact Nat.div_pos this (W32_pow m)
      have HT := Lib.hid hT
      clear hT hl hv
      go_enter Tryz.func65, Tryz.ntmps65
      go_wp2_with fail
      clear hcell hn0 hn1
      generalize hTT : dg M m = T at *
      have HTT := Lib.hid hTT
      clear hTT
      go_loop [3, 4] (fun i x => ∃ j X : Nat, j ≤ 32 ∧ i = .int .i64 ((32 * m + j : Nat) : Int) ∧ x = .int .u32 (X : Int) ∧ X = T / 2 ^ j ∧ (j = 0 ∨ 0 < T / 2 ^ (j - 1))) (fun _ x => (intOf x).toNat)
      case atStart => exact ⟨0, T, by omega, by congr 1, rfl, by rw [Nat.pow_zero, Nat.div_one], Or.inl rfl⟩
      case round =>
        obtain ⟨j, X, hj, rfl, rfl, hX, hp⟩ := hrel
        have hXT : X ≤ 4294967295 := by rw [hX]; exact Nat.le_trans (Nat.div_le_self _ _) hTl
        by_cases hz : 0 < X
        · have hj32 : j < 32 := by
            refine Nat.lt_of_not_le fun hge => ?_
            have h1 : T / 2 ^ j = 0 := Nat.div_eq_of_lt (Nat.lt_of_lt_of_le (show T < 2 ^ 32 by omega) (Nat.pow_le_pow_right (by decide) hge))
            omega
          have hz' : (0 : Int) < (X : Int) := by omega
          have hhalf : X / 2 = T / 2 ^ (j + 1) := by rw [hX]; exact half_pow T j
          have HX := Lib.hid hX
          have HH := Lib.hid hhalf
          clear hX hhalf hp
          go_wp2_with fail
          go_round
          case rel => exact ⟨j + 1, X / 2, by omega, by go_num, by go_num, HH.out, Or.inr (by rw [Nat.add_sub_cancel, ← HX.out]; exact hz)⟩
          case measure => simp [intOf]; omega
        · obtain rfl : X = 0 := by omega
          have HX := Lib.hid hX
          have HP := Lib.hid hp
          clear hX hp
          go_wp2_with fail
          go_ret
          have hlen : IsLen j T := by
            constructor
            · have := HX.out
              have h2 := Nat.lt_mul_div_succ T (Nat.two_pow_pos j)
              rw [← this] at h2
              omega
            · intro hj0
              rcases HP.out with h1 | h1
              · omega
              · have h2 := Nat.mul_div_le T (2 ^ (j - 1))
                have h3 : 2 ^ (j - 1) * 1 ≤ 2 ^ (j - 1) * (T / 2 ^ (j - 1)) := Nat.mul_le_mul_left _ h1
                omega
          have hj0 : 0 < j := by
            refine Nat.pos_of_ne_zero fun e => ?_
            subst e
            have := hlen.1
            rw [Nat.pow_zero] at this
            omega
          have hTM : T = M / W32 ^ m := HT.out
          have hfin := blen_32 M m j (by rw [← hTM]; unfold W32; omega) (by rw [← hTM]; exact hlen) hj0
          rw [(isLen_blen M).unique hfin]
          exact ⟨rfl, rfl⟩
theorem MagIs.form {w : World} {v : Value} {M : Nat} (h : MagIs w v M) : ∃ A n cap, v = .slice A n cap ∧ n ≤ 1000000 ∧ (n = 0 ↔ M = 0) := by
  rcases h with ⟨rfl, rfl⟩ | ⟨g, n, cap, rfl, hn, hc, hl, hv⟩
  · exact ⟨none, 0, 0, rfl, by omega, by simp⟩
  · exact ⟨_, n, cap, rfl, by omega, nl32_zero n M hl⟩
theorem below_alloc (w : World) (o : Obj) : Below w.heap.size w (w.alloc o) := (Below.refl _ _).alloc (Nat.le_refl _) _
theorem Length_any (w : World) (neg : Bool) (v : Value) (M : Nat) (E : Int) (h : MagIs w v M) :
    Calls Tryz.prog 91 #[.agg #[.bool neg, v, .int .i64 E]] w fun e w' => e = .returned (.int .i64 (blen M : Nat)) ∧ Below w.heap.size w w' := by
  have hl := fun w1 h1 => length_any w1 v M (h.below (w1 := w1) h1)
  go_enter Tryz.func91, Tryz.ntmps91
  go_wp2_with fail
  have hb := below_alloc w (.cells #[.bool neg, v, .int .i64 E] 29)
  refine (hl _ hb).mono ?_
  rintro e w1 ⟨rfl, rfl⟩
  go_wp2_with fail
  go_ret
  exact ⟨rfl, hb⟩
def signM (neg : Bool) (M : Nat) : Int := if M = 0 then 0 else if neg = true then -1 else 1
theorem refSign_any (w : World) (neg : Bool) (v : Value) (M : Nat) (E : Int) (h : MagIs w v M) :
    Calls Tryz.prog 18 #[.agg #[.bool neg, v, .int .i64 E]] w fun e w' => e = .returned (.int .i64 (signM neg M)) ∧ Below w.heap.size w w' := by
  obtain ⟨A, n, cap, rfl, hn, h0⟩ := h.form
  have hb := below_alloc w (.cells #[.bool neg, .slice A n cap, .int .i64 E] 29)
  by_cases hz : n = 0
  · have hM := h0.1 hz
    subst hz
    subst hM
    clear h h0
    go_enter Tryz.func18, Tryz.ntmps18
    go_wp2_with fail
    go_ret
    exact ⟨rfl, hb⟩
  · have hM : M ≠ 0 := fun e => hz (h0.2 e)
    have hn0 : ((n : Int) == 0) = false := by rw [beq_eq_false_iff_ne]; omega
    have hs : signM neg M = if neg = true then -1 else 1 := if_neg hM
    rw [hs]
    clear h h0 hs
    cases neg with
    | true =>
      go_enter Tryz.func18, Tryz.ntmps18
      go_wp2_with fail
      go_ret
      exact ⟨rfl, hb⟩
    | false =>
      go_enter Tryz.func18, Tryz.ntmps18
      go_wp2_with fail
      go_ret
      exact ⟨rfl, hb⟩
theorem Size_any (w : World) (neg : Bool) (A : Option Addr) (n cap : Nat) (E : Int) :
    Calls Tryz.prog 67 #[.agg #[.bool neg, .slice A n cap, .int .i64 E]] w fun e w' => e = .returned (.agg #[.bool false, .slice A n cap, .int .i64 E]) ∧ Below w.heap.size w w' := by
  go_enter Tryz.func67, Tryz.ntmps67
  go_wp2_with fail
  go_returns
  exact ⟨rfl, (below_alloc w _).trans ((below_alloc _ _).mono (by simp))⟩
theorem Moved_any (w : World) (neg : Bool) (v : Value) (M : Nat) (E k : Int) (h : MagIs w v M) (hE : -1000000 ≤ E ∧ E ≤ 1000000) (hk : -1000000 ≤ k ∧ k ≤ 1000000) (hM : M ≠ 0) :
    Calls Tryz.prog 11 #[.agg #[.bool neg, v, .int .i64 E], .int .i64 k] w fun e w' => e = .returned (.agg #[.bool neg, v, .int .i64 (E + k)]) ∧ Below w.heap.size w w' := by
  obtain ⟨A, n, cap, rfl, hn, h0⟩ := h.form
  have hz : 0 < n := Nat.pos_of_ne_zero fun e => hM (h0.1 e)
  have hz' : (0 : Int) < (n : Int) := by omega
  clear h h0
  go_enter Tryz.func11, Tryz.ntmps11
  go_wp2_with fail
  go_returns
  exact ⟨rfl, (below_alloc w _).trans ((below_alloc _ _).mono (by simp))⟩
/-- The row told as one word. -/
theorem word_any (w : World) (v : Value) (M : Nat) (h : MagIs w v M) (hM : M < B64) :
    Calls Tryz.prog 69 #[v] w fun e w' => e = .returned (.int .u64 (M : Nat)) ∧ w' = w := by
  rcases h with ⟨rfl, rfl⟩ | ⟨g, n, cap, rfl, hn, hc, hl, hv⟩
  · go_enter Tryz.func69, Tryz.ntmps69
    go_wp2_with fail
    go_loop [3, 4] (fun a i => a = .int .u64 0 ∧ i = .int .i64 (-1)) (fun _ i => 0)
    case atStart => exact ⟨rfl, rfl⟩
    case round =>
      obtain ⟨rfl, rfl⟩ := hrel
      go_wp2_with fail
      go_ret
      exact ⟨rfl, rfl⟩
  · have hMn : M / W32 ^ n = 0 := Nat.div_eq_of_lt hl.1
    have HM := Lib.hid hMn
    clear hMn hl
    go_enter Tryz.func69, Tryz.ntmps69
    go_wp2_with fail
    go_loop [3, 4] (fun a i => ∃ k X : Nat, k ≤ n ∧ a = .int .u64 (X : Int) ∧ X = M / W32 ^ k ∧ i = .int .i64 ((k : Int) - 1)) (fun _ i => (intOf i + 1).toNat)
    case atStart => exact ⟨n, 0, Nat.le_refl _, rfl, HM.out.symm, rfl⟩
    case round =>
      obtain ⟨k, X, hk, rfl, hX, rfl⟩ := hrel
      by_cases h0 : k = 0
      · subst h0
        have hXM : X = M := by rw [hX, Nat.pow_zero, Nat.div_one]
        subst hXM
        have HX := Lib.hid hX
        clear hX
        go_wp2_with fail
        go_ret
        exact ⟨rfl, rfl⟩
      · obtain ⟨j, rfl⟩ : ∃ j, k = j + 1 := ⟨k - 1, by omega⟩
        have hj : ((j + 1 : Nat) : Int) - 1 = (j : Int) := by omega
        rw [hj]
        have hcell := hv.cell j (Nat.zero_le _) (by omega)
        have hdl := dg_le M j
        have hstep : X * 4294967296 + dg M j = M / W32 ^ j := by
          rw [hX]
          unfold dg
          rw [Nat.pow_succ, ← Nat.div_div_eq_div_mul]
          unfold W32
          omega
        have hlt : M / W32 ^ j < B64 := Nat.lt_of_le_of_lt (Nat.div_le_self _ _) hM
        have hXs : X * 4294967296 < B64 := by omega
        have hor : bits .or .u64 ((X : Int) * 4294967296) ((dg M j : Nat) : Int) = ((X * 4294967296 + dg M j : Nat) : Int) := by
          have h1 := u64_or_nat (X * 4294967296) (dg M j) hXs (by omega)
          rw [show ((X * 4294967296 : Nat) : Int) = (X : Int) * 4294967296 by omega] at h1
          rw [h1]
          congr 1
          have e : X * 4294967296 = 2 ^ 32 * X := Nat.mul_comm _ _
          rw [e, ← Nat.two_pow_add_eq_or_of_lt (show dg M j < 2 ^ 32 from dg_lt M j)]
        have hwr : IntKind.u64.wrap ((X : Int) * 4294967296) = (X : Int) * 4294967296 := by
          rw [IntKind.wrap_u64]
          unfold B64 at hXs
          omega
        have hj0 : (0 : Int) ≤ (j : Int) := by omega
        have HS := Lib.hid hstep
        have HX := Lib.hid hX
        clear hX hstep hlt
        go_wp2_with fail
        go_round
        case rel => exact ⟨j, X * 4294967296 + dg M j, by omega, by go_num, HS.out, by go_num⟩
        case measure => simp [intOf]
set_option linter.unusedVariables false
set_option linter.unusedSimpArgs false
open Go Go.RowKit
set_option maxRecDepth 100000
theorem dg_zero (k : Nat) : dg 0 k = 0 := by unfold dg; rw [Nat.zero_div]; rfl
theorem dg_high (V k : Nat) (h : V < W32 ^ k) : dg V k = 0 := by unfold dg; rw [Nat.div_eq_of_lt h]; rfl
theorem dg_same (V Y p j : Nat) (h : j < p) : dg (V + Y * W32 ^ p) j = dg V j := by
  unfold dg
  obtain ⟨d, rfl⟩ : ∃ d, p = j + 1 + d := ⟨p - (j + 1), by omega⟩
  rw [show W32 ^ (j + 1 + d) = W32 ^ j * (W32 * W32 ^ d) by rw [Nat.pow_add, Nat.pow_add, Nat.pow_one, Nat.mul_assoc], Nat.mul_left_comm, Nat.add_mul_div_left _ _ (W32_pow j), Nat.mul_left_comm, Nat.add_mul_mod_self_left]
theorem div_add (V Y p : Nat) : (V + Y * W32 ^ p) / W32 ^ p = V / W32 ^ p + Y := by
  rw [Nat.mul_comm, Nat.add_mul_div_left _ _ (W32_pow p)]
theorem low_aux (c x r : Nat) (hr : r ≤ 31) (hc : c < 2 ^ r) : c ||| (x * 2 ^ r % W32) = (c + x * 2 ^ r) % W32 := by
  have hr2 : 2 ^ r ≤ 2 ^ 31 := Nat.pow_le_pow_right (by decide) hr
  have hW : W32 = 2 ^ r * 2 ^ (32 - r) := by rw [← Nat.pow_add, show r + (32 - r) = 32 by omega]; rfl
  have hcW : c < W32 := Nat.lt_of_lt_of_le hc (Nat.le_trans hr2 (by decide))
  have h2 : x * 2 ^ r % W32 = 2 ^ r * (x % 2 ^ (32 - r)) := by
    conv => lhs; rw [hW, Nat.mul_comm x, Nat.mul_mod_mul_left]
  have h3 : c + x * 2 ^ r % W32 < W32 := by
    have h4 : x % 2 ^ (32 - r) + 1 ≤ 2 ^ (32 - r) := Nat.mod_lt _ (Nat.two_pow_pos _)
    have h5 : 2 ^ r * (x % 2 ^ (32 - r) + 1) ≤ 2 ^ r * 2 ^ (32 - r) := Nat.mul_le_mul_left _ h4
    rw [Nat.mul_add, Nat.mul_one, ← h2, ← hW] at h5
    omega
  rw [Nat.add_mod, Nat.mod_eq_of_lt hcW, Nat.mod_eq_of_lt h3, h2, Nat.or_comm, ← Nat.two_pow_add_eq_or_of_lt hc, Nat.add_comm]
theorem high_aux (c x r : Nat) (hr : r ≤ 31) (hx : x < W32) (hc : c < 2 ^ r) : (c + x * 2 ^ r) / W32 = x * 2 ^ r / W32 ∧ x * 2 ^ r / W32 < W32 := by
  have hW : W32 = 2 ^ r * 2 ^ (32 - r) := by rw [← Nat.pow_add, show r + (32 - r) = 32 by omega]; rfl
  have hp := Nat.two_pow_pos r
  have e1 : (c + x * 2 ^ r) / W32 = x / 2 ^ (32 - r) := by
    conv => lhs; rw [hW, ← Nat.div_div_eq_div_mul, Nat.add_mul_div_right _ _ hp, Nat.div_eq_of_lt hc, Nat.zero_add]
  have e2 : x * 2 ^ r / W32 = x / 2 ^ (32 - r) := by
    conv => lhs; rw [hW, ← Nat.div_div_eq_div_mul, Nat.mul_div_cancel _ hp]
  exact ⟨e1.trans e2.symm, e2 ▸ Nat.lt_of_le_of_lt (Nat.div_le_self _ _) hx⟩
theorem top_lt (V r p : Nat) (hV : V < W32 ^ p * 2 ^ r) : V / W32 ^ p < 2 ^ r := by
  rw [Nat.div_lt_iff_lt_mul (W32_pow p), Nat.mul_comm]
  exact hV
/-- One round: what stands, a limb's low part joined, its high part laid above. -/
theorem left_low (V x r p : Nat) (hr : r ≤ 31) (hV : V < W32 ^ p * 2 ^ r) : dg V p ||| (x * 2 ^ r % W32) = dg (V + x * 2 ^ r * W32 ^ p) p := by
  have hc := top_lt V r p hV
  have hcW : V / W32 ^ p < W32 := Nat.lt_of_lt_of_le hc (Nat.le_trans (Nat.pow_le_pow_right (by decide) hr) (by decide : (2 : Nat) ^ 31 ≤ W32))
  unfold dg
  rw [div_add, Nat.mod_eq_of_lt hcW]
  exact low_aux _ x r hr hc
theorem left_high (V x r p : Nat) (hr : r ≤ 31) (hx : x < W32) (hV : V < W32 ^ p * 2 ^ r) : x * 2 ^ r / W32 = dg (V + x * 2 ^ r * W32 ^ p) (p + 1) := by
  obtain ⟨h1, h2⟩ := high_aux _ x r hr hx (top_lt V r p hV)
  unfold dg
  rw [Nat.pow_succ, ← Nat.div_div_eq_div_mul, div_add, h1, Nat.mod_eq_of_lt h2]
theorem left_above (V x r p j : Nat) (hr : r ≤ 31) (hx : x < W32) (hV : V < W32 ^ p * 2 ^ r) (hj : p + 1 < j) : dg (V + x * 2 ^ r * W32 ^ p) j = 0 ∧ dg V j = 0 := by
  have hr2 : 2 ^ r ≤ 2 ^ 31 := Nat.pow_le_pow_right (by decide) hr
  have h1 : W32 ^ p * 2 ^ r ≤ W32 ^ p * W32 := Nat.mul_le_mul_left _ (by unfold W32; omega)
  have h2 : W32 ^ p * W32 * W32 ≤ W32 ^ j := by
    rw [← Nat.pow_succ, ← Nat.pow_succ]
    exact Nat.pow_le_pow_right W32_pos (by omega)
  have h3 : W32 ^ p * W32 * 1 ≤ W32 ^ p * W32 * W32 := Nat.mul_le_mul_left _ W32_pos
  refine ⟨dg_high _ _ ?_, dg_high _ _ (by omega)⟩
  have h4 : x * 2 ^ r * W32 ^ p ≤ (W32 - 1) * 2 ^ 31 * W32 ^ p := Nat.mul_le_mul_right _ (Nat.mul_le_mul (by omega) hr2)
  have h5 : (W32 - 1) * 2 ^ 31 * W32 ^ p + W32 ^ p * W32 ≤ W32 ^ p * W32 * W32 := by
    have : (W32 - 1) * 2 ^ 31 + W32 ≤ W32 * W32 := by decide
    have := Nat.mul_le_mul_left (W32 ^ p) this
    rw [Nat.mul_add, ← Nat.mul_assoc (W32 ^ p) W32 W32] at this
    rw [Nat.mul_comm ((W32 - 1) * 2 ^ 31)]
    exact this
  omega
/-- What has been laid behind i limbs. -/
def part (M q r i : Nat) : Nat := M % W32 ^ i * 2 ^ r * W32 ^ q
theorem part_step (M q r i : Nat) : part M q r (i + 1) = part M q r i + dg M i * 2 ^ r * W32 ^ (i + q) := by
  unfold part
  rw [dg_add, Nat.add_mul, Nat.add_mul, Nat.pow_add]
  congr 1
  ac_rfl
theorem part_lt (M q r i : Nat) : part M q r i < W32 ^ (i + q) * 2 ^ r := by
  unfold part
  have h1 : M % W32 ^ i < W32 ^ i := Nat.mod_lt _ (W32_pow i)
  rw [Nat.pow_add, show M % W32 ^ i * 2 ^ r * W32 ^ q = M % W32 ^ i * (W32 ^ q * 2 ^ r) by ac_rfl, Nat.mul_assoc]
  exact Nat.mul_lt_mul_of_pos_right h1 (Nat.mul_pos (W32_pow q) (Nat.two_pow_pos r))
theorem part_end (M q r n : Nat) (h : M < W32 ^ n) : part M q r n = M * 2 ^ (32 * q + r) := by
  unfold part
  rw [Nat.mod_eq_of_lt h, W32_two, Nat.mul_assoc, ← Nat.pow_add, Nat.add_comm r]
theorem part_zero (M q r : Nat) : part M q r 0 = 0 := by unfold part; rw [Nat.pow_zero, Nat.mod_one, Nat.zero_mul, Nat.zero_mul]
theorem part_high (M q r k : Nat) (hr : r ≤ 31) : dg (part M q r k) (k + q + 1) = 0 := by
  refine dg_high _ _ (Nat.lt_of_lt_of_le (part_lt M q r k) ?_)
  rw [Nat.pow_succ]
  exact Nat.mul_le_mul_left _ (Nat.le_trans (Nat.pow_le_pow_right (by decide) hr) (by decide : (2 : Nat) ^ 31 ≤ W32))
set_option maxHeartbeats 4000000 in
theorem left_any (w : World) (v : Value) (M q r : Nat) (h : MagIs w v M) (hq : q ≤ 100000) (hr : r ≤ 31) (hn : ∀ A n cap, v = .slice A n cap → n ≤ 100000) :
    Calls Tryz.prog 51 #[v, .int .i64 ((32 * q + r : Nat) : Int)] w fun e w' => ∃ v', e = .returned v' ∧ MagIs w' v' (M * 2 ^ (32 * q + r)) ∧ Below w.heap.size w w' := by
  by_cases hM : M = 0
  · subst hM
    obtain ⟨A, n, cap, rfl, _, h0⟩ := h.form
    obtain rfl : n = 0 := h0.2 rfl
    go_enter Tryz.func51, Tryz.ntmps51
    go_wp2_with fail
    go_ret
    exact ⟨_, rfl, Or.inl ⟨rfl, by simp⟩, Below.refl _ _⟩
  · rcases h with ⟨_, h0⟩ | ⟨g, n, cap, rfl, hnc, hc, hl, hv⟩
    · exact absurd h0 hM
    · have hn1 := hn _ _ _ rfl
      have hnp : 0 < n := Nat.pos_of_ne_zero fun e => hM ((nl32_zero n M hl).1 e)
      have hn0 : ((n : Int) == 0) = false := by rw [beq_eq_false_iff_ne]; omega
      obtain ⟨s, hs⟩ : ∃ s, s = 32 * q + r := ⟨_, rfl⟩
      have hquo : Int.tdiv (s : Int) 32 = (q : Nat) := by rw [Int.tdiv_eq_ediv_of_nonneg (by omega)]; omega
      have hrem : Int.tmod (s : Int) 32 = (r : Nat) := by rw [Int.tmod_eq_emod_of_nonneg (by omega)]; omega
      have hmk := run_make_32 ((n : Int) + q + 1) ((n : Int) + q + 1) (by omega) (Int.le_refl _) (by omega)
      obtain ⟨N, hN⟩ : ∃ N, N = n + q + 1 := ⟨_, rfl⟩
      have hNt : ((n : Int) + q + 1).toNat = N := by omega
      rw [hNt] at hmk
      rw [← hs]
      have hs0 : (0 : Int) ≤ (s : Int) := by omega
      have hsl : s ≤ 4000000 := by omega
      have HS := Lib.hid hs
      have HN := Lib.hid hN
      have HL := Lib.hid hl
      clear hs hNt hN hl hn
      go_enter Tryz.func51, Tryz.ntmps51
      go_wp2_with fail
      obtain ⟨gh, hgh⟩ : ∃ gh, gh = w.heap.size := ⟨_, rfl⟩
      have hm0 : V32 (w.alloc (.cells (zero32 N) 68)) gh N 0 N (dg (part M q r 0)) := by
        rw [hgh, part_zero]
        exact (V32.made w N).weaken fun j a b => ⟨a, b, (dg_zero j).symm⟩
      have hg0 : w.grownBy (w.alloc (.cells (zero32 N) 68)) (Option.some gh) := World.grownBy_alloc w _ _
      have hgw : g ≠ gh := by have := hv.lt; omega
      rw [← hgh]
      have HG := Lib.hid hgh
      clear hmk hgh
      go_loopw [6] (fun i wr => ∃ k : Nat, k ≤ n ∧ i = .int .i64 (k : Nat) ∧ V32 wr gh N 0 N (dg (part M q r k)) ∧ w.grownBy wr (Option.some gh)) (fun i _ => n - (intOf i).toNat)
      case atStart => exact ⟨0, Nat.zero_le _, rfl, hm0, hg0⟩
      case round =>
        obtain ⟨k, hk, rfl, hz, hg⟩ := hrel
        clear hm0 hg0
        by_cases hlt : k < n
        · have hlt' : (k : Int) < (n : Int) := by omega
          have hk0 : (0 : Int) ≤ (k : Int) := by omega
          have hcx := (hv.grown hg (fun e => hgw (by injection e))).cell k (Nat.zero_le _) hlt
          have hxW := dg_lt M k
          have hV := part_lt M q r k
          have hps := part_step M q r k
          have hlow := left_low (part M q r k) (dg M k) r (k + q) hr hV
          have hhigh := left_high (part M q r k) (dg M k) r (k + q) hr hxW hV
          rw [← hps] at hlow hhigh
          have hsame : ∀ j, j ≠ k + q → j ≠ k + q + 1 → dg (part M q r k) j = dg (part M q r (k + 1)) j := fun j h1 h2 => by
            rw [hps]
            rcases Nat.lt_or_ge j (k + q) with h3 | h3
            · exact (dg_same _ _ _ _ h3).symm
            · obtain ⟨h4, h5⟩ := left_above (part M q r k) (dg M k) r (k + q) j hr hxW hV (by omega)
              rw [h4, h5]
          have hp0 := part_high M q r k hr
          have hNn := HN.out
          have hdV := dg_lt (part M q r k) (k + q)
          have hD1l := dg_lt (part M q r (k + 1)) (k + q)
          have hD2l := dg_lt (part M q r (k + 1)) (k + q + 1)
          have hc1 := hz.cell (k + q) (Nat.zero_le _) (by omega)
          have hf1 := hz.free (k + q)
          have hc2 := hz.cell (k + q + 1) (Nat.zero_le _) (by omega)
          rw [hp0] at hc2
          obtain ⟨x, hx⟩ : ∃ x, x = dg M k := ⟨_, rfl⟩
          obtain ⟨y, hy⟩ : ∃ y, y = x * 2 ^ r := ⟨_, rfl⟩
          obtain ⟨o, ho⟩ : ∃ o, o = dg (part M q r k) (k + q) := ⟨_, rfl⟩
          obtain ⟨D1, hD1⟩ : ∃ D1, D1 = dg (part M q r (k + 1)) (k + q) := ⟨_, rfl⟩
          obtain ⟨D2, hD2⟩ : ∃ D2, D2 = dg (part M q r (k + 1)) (k + q + 1) := ⟨_, rfl⟩
          rw [← hx] at hcx hxW hlow hhigh
          rw [← hy, ← ho, ← hD1] at hlow
          rw [← hy, ← hD2] at hhigh
          rw [← ho] at hc1 hdV
          rw [← hD1] at hD1l
          rw [← hD2] at hD2l
          have hset1 : V32 (wr.setCell ⟨gh, k + q, none⟩ (.int .u32 (D1 : Nat))) gh N 0 N (fun j => if j = k + q then D1 else dg (part M q r k) j) :=
            hz.set (k + q) D1 (by omega) (by rw [if_pos rfl]) (fun j a b hne => ⟨a, b, (if_neg hne).symm⟩)
          have hc2' := hset1.cell (k + q + 1) (Nat.zero_le _) (by omega)
          rw [if_neg (by omega), hp0] at hc2'
          have hf2' := hset1.free (k + q + 1)
          have hset2 : V32 ((wr.setCell ⟨gh, k + q, none⟩ (.int .u32 (D1 : Nat))).setCell ⟨gh, k + q + 1, none⟩ (.int .u32 (D2 : Nat))) gh N 0 N (dg (part M q r (k + 1))) :=
            hset1.set (k + q + 1) D2 (by omega) hD2 (fun j a b hne => ⟨a, b, by
              by_cases h1 : j = k + q
              · rw [if_pos h1, h1, hD1]
              · rw [if_neg h1]; exact hsame j h1 hne⟩)
          have hg2 := grown_set (grown_set hg (k + q) (.int .u32 (D1 : Nat))) (k + q + 1) (.int .u32 (D2 : Nat))
          have hr2 : 2 ^ r ≤ 2 ^ 31 := Nat.pow_le_pow_right (by decide) hr
          have hyl : y < 9223372036854775808 := by
            rw [hy]
            have h1 : x * 2 ^ r ≤ (W32 - 1) * 2 ^ 31 := Nat.mul_le_mul (by omega) hr2
            exact Nat.lt_of_le_of_lt h1 (by decide)
          have hxs : IntKind.u64.wrap ((x : Int) * 2 ^ r) = ((y : Nat) : Int) := by
            have e : ((y : Nat) : Int) = (x : Int) * 2 ^ r := by rw [hy, Int.natCast_mul, Int.natCast_pow]; rfl
            rw [← e, IntKind.wrap_u64]
            omega
          obtain ⟨lo, hlo⟩ : ∃ lo, lo = y % W32 := ⟨_, rfl⟩
          have hw32 : IntKind.u32.wrap ((y : Nat) : Int) = ((lo : Nat) : Int) := by
            rw [IntKind.wrap_u32, hlo]; rfl
          have hor1 : bits .or .u32 ((o : Nat) : Int) ((lo : Nat) : Int) = ((D1 : Nat) : Int) := by
            rw [Go.u32_or_nat o lo hdV (by rw [hlo]; exact Nat.mod_lt _ W32_pos), hlo, hlow]
          have hdiv : ((y : Nat) : Int) / 4294967296 = ((D2 : Nat) : Int) := by rw [← hhigh]; rfl
          have hor2 : bits .or .u32 0 ((D2 : Nat) : Int) = ((D2 : Nat) : Int) := by
            have := Go.u32_or_nat 0 D2 (by decide) hD2l
            rw [Nat.zero_or] at this
            exact this
          have hxl : (x : Int) ≤ 4294967295 := by unfold W32 at hxW; omega
          have hD1i : (D1 : Int) ≤ 4294967295 := by unfold W32 at hD1l; omega
          have hD2i : (D2 : Int) ≤ 4294967295 := by unfold W32 at hD2l; omega
          have hoi : (o : Int) ≤ 4294967295 := by unfold W32 at hdV; omega
          have hb1 : (k : Int) + (q : Int) < (N : Int) := by omega
          have hb2 : (k : Int) + (q : Int) + 1 < (N : Int) := by omega
          have hb3 : (0 : Int) ≤ (k : Int) + (q : Int) + 1 := by omega
          have hb4 : (0 : Int) ≤ (k : Int) + (q : Int) := by omega
          clear hx hy hlo ho hD1 hD2 hlow hhigh hsame hp0 hset1 hc2 hz hg hps hV hr2 hNn hdV hD1l hD2l hxW
          go_wp2_with fail
          go_roundw
          case rel => exact ⟨k + 1, by omega, by go_num, hset2, hg2⟩
          case measure => simp [intOf]; omega
        · obtain rfl : k = n := by omega
          have hlt' : decide ((k : Int) < (k : Nat)) = false := by simp
          have htr := trim_row wr gh N N (part M q r k) hz (by
            have h1 := part_lt M q r k
            rw [HN.out, Nat.pow_succ]
            exact Nat.lt_of_lt_of_le h1 (Nat.mul_le_mul_left _ (Nat.le_trans (Nat.pow_le_pow_right (by decide) hr) (by decide : (2 : Nat) ^ 31 ≤ W32)))) (Nat.le_refl _) (by have := HN.out; omega)
          rw [part_end M q r k HL.out.1, ← HS.out] at *
          have hbel := below_of_grown hg (by rw [HG.out]; exact Nat.le_refl _)
          have hN9 : N ≤ 1000000 := by have := HN.out; omega
          clear hg hnc
          go_wp2_with fail
          refine htr.mono ?_
          rintro e w1 ⟨⟨j, hj, hnl, rfl⟩, rfl⟩
          go_wp2_with fail
          go_ret
          exact ⟨_, rfl, Or.inr ⟨gh, j, N, rfl, hj, hN9, hnl, hz.weaken fun i a b => ⟨a, by omega, rfl⟩⟩, hbel⟩
set_option linter.unusedVariables false
set_option linter.unusedSimpArgs false
open Go Go.RowKit
set_option maxRecDepth 100000
theorem two_limbs (w : World) (m : Nat) : V32 (w.alloc (.cells #[.int .u32 (dg m 0 : Nat), .int .u32 (dg m 1 : Nat)] 68)) w.heap.size 2 0 2 (dg m) := by
  refine ⟨_, heap_alloc_new w _, rfl, fun j _ hj => ?_⟩
  have : j = 0 ∨ j = 1 := by omega
  rcases this with rfl | rfl <;> rfl
theorem NL32_le {n M L : Nat} (h : NL32 n M) (hM : M < W32 ^ L) : n ≤ L := by
  refine Nat.le_of_not_lt fun hgt => ?_
  have h1 := h.2 (by omega)
  have h2 : W32 ^ L ≤ W32 ^ (n - 1) := Nat.pow_le_pow_right W32_pos (by omega)
  omega
set_option maxHeartbeats 2000000 in
theorem Of_num (w : World) (u : Nat) (hu : u < B64) (he : fexp u ≠ 2047) (hs : sig u ≠ 0) :
    Calls Tryz.prog 9 #[.int .u64 (u : Nat)] w fun e w' => ∃ v, e = .returned (.tuple #[.agg #[.bool (fneg u), v, .int .i64 (pwr u)], .bool true]) ∧ MagIs w' v (sig u) ∧ Below w.heap.size w w' := by
  have h1 := and_exp u hu
  have h2 := and_man u hu
  have hul : (u : Int) ≤ 18446744073709551615 := by unfold B64 at hu; omega
  have hel := fexp_lt u
  have hml := fman_lt u
  have hsl := sig_lt u
  have hneg : ((u : Int) / 9223372036854775808 == 1) = fneg u := by
    unfold fneg
    rw [Bool.eq_iff_iff, beq_iff_eq, beq_iff_eq]; omega
  have hne : (((fexp u : Nat) : Int) == 2047) = false := by rw [beq_eq_false_iff_ne]; omega
  obtain ⟨s, hss⟩ : ∃ s, s = sig u := ⟨_, rfl⟩
  have hs0 : ((s : Int) == 0) = false := by rw [beq_eq_false_iff_ne]; omega
  have hd0 : IntKind.u32.wrap (s : Int) = ((dg s 0 : Nat) : Int) := by
    rw [IntKind.wrap_u32]
    unfold dg
    rw [Nat.pow_zero, Nat.div_one]; rfl
  have hd1 : (s : Int) / 4294967296 = ((dg s 1 : Nat) : Int) := by
    unfold dg
    rw [Nat.pow_one, Nat.mod_eq_of_lt]
    · rfl
    · rw [hss]; unfold W32; omega
  have hd1l := dg_le s 1
  have hsW : s < W32 ^ 2 := by rw [hss]; exact Nat.lt_trans hsl (by decide)
  rw [← hss]
  rw [← hss] at hsl
  have hV : ∀ (w : World) (ob : Obj), V32 ((w.alloc ob).alloc (.cells #[.int .u32 (dg s 0 : Nat), .int .u32 (dg s 1 : Nat)] 68)) (w.heap.size + 1) 2 0 2 (dg s) := fun w ob => by
    have := two_limbs (w.alloc ob) s
    rw [show (w.alloc ob).heap.size = w.heap.size + 1 by simp] at this
    exact this
  by_cases h0 : fexp u = 0
  · have hsm : fman u = s := by rw [hss]; unfold sig; rw [if_pos h0]
    have hp : pwr u = -1074 := if_pos h0
    rw [hp]
    rw [h0] at h1 hne
    rw [hsm] at h2
    clear hss hs he h0 hel hml hsm hp
    generalize fneg u = ng at *
    go_enter Tryz.func9, Tryz.ntmps9
    go_wp2_with fail
    refine (trim_row _ _ 2 2 s (hV w _) hsW (Nat.le_refl _) (by decide)).mono ?_
    rintro e w1 ⟨⟨k, hk, hnl, rfl⟩, rfl⟩
    go_wp2_with fail
    go_returns
    refine ⟨_, rfl, ?_, ?_⟩
    · exact Or.inr ⟨_, k, 2, rfl, hk, by decide, hnl, (hV w _).weaken fun j a b => ⟨a, by omega, rfl⟩⟩
    · exact (below_alloc w _).trans ((below_alloc _ _).mono (by simp))
  · have hsm : fman u + 4503599627370496 = s := by rw [hss]; unfold sig; rw [if_neg h0]
    have hor := or_man (fman u) hml
    rw [hsm] at hor
    have hp : pwr u = (fexp u : Int) - 1075 := if_neg h0
    have he0 : (0 : Int) < ((fexp u : Nat) : Int) := by omega
    have he0' : 0 < fexp u := by omega
    rw [hp]
    clear hss hs he h0 hsm hp
    generalize fneg u = ng at *
    generalize fexp u = ex at *
    generalize fman u = mn at *
    go_enter Tryz.func9, Tryz.ntmps9
    go_wp2_with fail
    refine (trim_row _ _ 2 2 s (hV w _) hsW (Nat.le_refl _) (by decide)).mono ?_
    rintro e w1 ⟨⟨k, hk, hnl, rfl⟩, rfl⟩
    go_wp2_with fail
    go_returns
    refine ⟨_, rfl, ?_, ?_⟩
    · exact Or.inr ⟨_, k, 2, rfl, hk, by decide, hnl, (hV w _).weaken fun j a b => ⟨a, by omega, rfl⟩⟩
    · exact (below_alloc w _).trans ((below_alloc _ _).mono (by simp))
end Go.Proofs.YtopilodakphhgaaGreatDoor
