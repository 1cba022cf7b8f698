/- An Acc's real as an Int (in units of the least bit), or bad; Prod and Add in these words. -/
import Derived.Test.YtopilodakphhgaaDoorAccProdBad
namespace Go.Proofs.YtopilodakphhgaaDoor
set_option linter.unusedVariables false
set_option linter.unusedSimpArgs false
open Go Go.RowKit
theorem pow_words (k m : Nat) : B64 ^ k * 2 ^ m = 2 ^ (64 * k + m) := by
  rw [show B64 = 2 ^ 64 from rfl, ← Nat.pow_mul, ← Nat.pow_add]
theorem LIM_pow : ∃ k, k = 4772 ∧ LIM = 2 ^ k := ⟨64 * 74 + 36, rfl, by
  have h := pow_words 74 36
  unfold LIM
  rw [show (68719476736 : Nat) = 2 ^ 36 from rfl]
  exact h⟩
theorem four_aux (M L B : Nat) (h : 4 * L ≤ B * B) : 4 * (M * L) ≤ M * (B * B) := by
  rw [Nat.mul_left_comm]
  exact Nat.mul_le_mul_left _ h
theorem four_le : 4 * 68719476736 ≤ B64 * B64 := Nat.mul_le_mul (show 4 ≤ B64 by unfold B64; omega) (show 68719476736 ≤ B64 by unfold B64; omega)
theorem TOP_eq : TOP = B64 ^ 74 * (B64 * B64) := by unfold TOP; rw [Nat.pow_succ, Nat.pow_succ, Nat.mul_assoc]
theorem LIM_eq : LIM = B64 ^ 74 * 68719476736 := by unfold LIM; exact Eq.refl _
theorem TOP_LIM : 4 * LIM ≤ TOP := LIM_eq ▸ Nat.le_trans (four_aux (B64 ^ 74) 68719476736 B64 four_le) (Nat.le_of_eq TOP_eq.symm)
def enc (z : Int) : Nat := (z % (TOP : Int)).toNat
theorem enc_lt (z : Int) : enc z < TOP := by
  have h := TOP_pos
  have h1 := Int.emod_lt_of_pos z (show (0 : Int) < TOP by omega)
  have h2 := Int.emod_nonneg z (show (TOP : Int) ≠ 0 by omega)
  unfold enc
  omega
theorem enc_cast (z : Int) : (enc z : Int) = z % (TOP : Int) := by
  have h := TOP_pos
  have h2 := Int.emod_nonneg z (show (TOP : Int) ≠ 0 by omega)
  unfold enc
  omega
theorem enc_add (z : Int) (Q : Nat) : (enc z + Q) % TOP = enc (z + Q) := by
  apply Int.ofNat.inj
  show ((((enc z + Q) % TOP : Nat)) : Int) = ((enc (z + Q) : Nat) : Int)
  rw [enc_cast, Int.natCast_emod, Int.natCast_add, enc_cast, Int.emod_add_emod]
theorem enc_sub (z : Int) (Q : Nat) (hQ : Q ≤ TOP) : (enc z + TOP - Q) % TOP = enc (z - Q) := by
  apply Int.ofNat.inj
  show ((((enc z + TOP - Q) % TOP : Nat)) : Int) = ((enc (z - Q) : Nat) : Int)
  have e : (((enc z + TOP - Q : Nat)) : Int) = (enc z : Int) - Q + TOP := by omega
  rw [enc_cast, Int.natCast_emod, e, Int.add_emod_right, enc_cast]
  rw [Int.sub_emod, Int.emod_emod_of_dvd _ (Int.dvd_refl _), ← Int.sub_emod]
theorem enc_pos (z : Int) (h : 0 ≤ z) (h2 : 2 * z.natAbs < TOP) : enc z = z.natAbs := by
  unfold enc
  rw [Int.emod_eq_of_lt h (by omega)]
  omega
theorem enc_neg (z : Int) (h : z < 0) (h2 : 2 * z.natAbs < TOP) : enc z = TOP - z.natAbs := by
  unfold enc
  rw [← Int.add_emod_right, Int.emod_eq_of_lt (by omega) (by omega)]
  omega
theorem isNeg_enc (z : Int) (h2 : 2 * z.natAbs < TOP) : isNeg (enc z) = decide (z < 0) := by
  unfold isNeg
  by_cases h : z < 0
  · rw [enc_neg z h h2, decide_eq_true h, decide_eq_true (by omega)]
  · rw [enc_pos z (by omega) h2, decide_eq_false h, decide_eq_false (by omega)]
theorem absX_enc (z : Int) (h2 : 2 * z.natAbs < TOP) : absX (enc z) = z.natAbs := by
  unfold absX
  rw [isNeg_enc z h2]
  by_cases h : z < 0
  · rw [decide_eq_true h, cond_true, enc_neg z h h2]
    omega
  · rw [decide_eq_false h, cond_false, enc_pos z (by omega) h2]
/-- Block b holds an Acc of this real, or a bad one. -/
def AccIs (w : World) (b : Nat) : Option Int → Prop
  | some z => AccAt w b (enc z) false ∧ z.natAbs < LIM
  | none => AccAt w b 0 true
def clip (z : Int) : Option Int := if z.natAbs < LIM then some z else none
theorem AccIs.lt {w : World} {b : Nat} {s : Option Int} (h : AccIs w b s) : b < w.heap.size := by
  cases s with
  | none => exact AccAt.lt h
  | some z => exact AccAt.lt h.1
theorem AccIs.heap {w w1 : World} {b : Nat} {s : Option Int} (h : AccIs w b s) (hb : w1.heap[b]? = w.heap[b]?) : AccIs w1 b s := by
  cases s with
  | none => exact hb.trans h
  | some z => exact ⟨hb.trans h.1, h.2⟩
theorem AccIs.below {w w1 : World} {b : Nat} {s : Option Int} (h : AccIs w b s) {B : Nat} (hb : b < B) (hw : Below B w w1) : AccIs w1 b s := h.heap (hw.block b hb)
theorem AccIs.grown {w w1 : World} {b : Nat} {s : Option Int} {row : Option Nat} (h : AccIs w b s) (hg : w.grownBy w1 row) (hr : some b ≠ row) : AccIs w1 b s := h.heap (hg.block b h.lt hr)
theorem fit_clip {w : World} {b : Nat} {z : Int} (h2 : 2 * z.natAbs < TOP) (h : FitAt w b (enc z)) : AccIs w b (clip z) := by
  unfold clip FitAt at *
  rw [absX_enc z h2] at h
  by_cases hl : z.natAbs < LIM
  · rw [if_pos hl]; exact ⟨h.1 hl, hl⟩
  · rw [if_neg hl]; exact h.2 (by omega)
/-- The product's value. -/
def prodQ (u v : Nat) (n : Int) : Nat := sig u * sig v * 2 ^ (pwr u + pwr v + n + 2212).toNat
def prodZ (u v : Nat) (n : Int) : Int := if (fneg u != fneg v) = true then -(prodQ u v n : Int) else prodQ u v n
theorem prodQ_lt (u v : Nat) (n : Int) (eu : fexp u ≠ 2047) (ev : fexp v ≠ 2047) (hn : n ≤ 64) : prodQ u v n < LIM := by
  have h1 := sig_lt u
  have h2 := sig_lt v
  have h3 := pwr_le u eu
  have h4 := pwr_le v ev
  have h5 : sig u * sig v < 2 ^ 106 := by
    have : sig u * sig v ≤ 9007199254740991 * 9007199254740991 := Nat.mul_le_mul (by omega) (by omega)
    exact Nat.lt_of_le_of_lt this (by decide)
  have h6 : (pwr u + pwr v + n + 2212).toNat ≤ 4218 := by omega
  unfold prodQ
  obtain ⟨k, hk, hL⟩ := LIM_pow
  rw [hL]
  generalize (pwr u + pwr v + n + 2212).toNat = x at *
  have h8 : sig u * sig v * 2 ^ x < 2 ^ 106 * 2 ^ x := Nat.mul_lt_mul_of_pos_right h5 (Nat.two_pow_pos _)
  rw [← Nat.pow_add] at h8
  exact Nat.lt_of_lt_of_le h8 (Nat.pow_le_pow_right (by omega) (by omega))
def prodS (s : Option Int) (u v : Nat) (n : Int) : Option Int :=
  match s with
  | none => none
  | some z => if fexp u = 2047 ∨ fexp v = 2047 ∨ n < -64 ∨ 64 < n then none else clip (z + prodZ u v n)
theorem prod_any (w : World) (b u v : Nat) (n : Int) (s : Option Int) (h : AccIs w b s) (hu : u < B64) (hv : v < B64) :
    Calls Tryd.prog 26 #[.pointer (some ⟨b, 0, none⟩), .float .f64 u, .float .f64 v, .int .i64 n] w fun e w' => e = .returned (.tuple #[]) ∧ AccIs w' b (prodS s u v n) ∧ w.grownBy w' (some b) := by
  cases s with
  | none => exact (prod_bad w b 0 u v n true h hu hv (Or.inl rfl)).mono fun e w' ⟨he, ha, hg⟩ => ⟨he, ha, hg⟩
  | some z =>
    obtain ⟨ha, hz⟩ := h
    unfold prodS
    by_cases hc : fexp u = 2047 ∨ fexp v = 2047 ∨ n < -64 ∨ 64 < n
    · simp only [if_pos hc]
      exact (prod_bad w b (enc z) u v n false ha hu hv (by
        refine Or.inr ?_
        by_cases h1 : fexp u = 2047
        · exact Or.inl ⟨rfl, h1⟩
        · by_cases h2 : fexp v = 2047
          · exact Or.inr (Or.inl ⟨rfl, h1, h2⟩)
          · by_cases h3 : n < -64
            · exact Or.inr (Or.inr (Or.inl ⟨rfl, h1, h2, h3⟩))
            · exact Or.inr (Or.inr (Or.inr ⟨rfl, h1, h2, by omega, by omega⟩)))).mono fun e w' ⟨he, ha, hg⟩ => ⟨he, ha, hg⟩
    · simp only [if_neg hc]
      have eu : fexp u ≠ 2047 := fun e => hc (Or.inl e)
      have ev : fexp v ≠ 2047 := fun e => hc (Or.inr (Or.inl e))
      have hn1 : -64 ≤ n := by omega
      have hn2 : n ≤ 64 := by omega
      have g1 := pwr_ge u
      have g2 := pwr_ge v
      have hq := prodQ_lt u v n eu ev hn2
      have ht := TOP_LIM
      have hat : pwr u + pwr v + n + 2212 = ((pwr u + pwr v + n + 2212).toNat : Int) := by omega
      refine (prod_num w b (enc z) u v _ _ _ _ n ha (enc_lt z) hu hv eu ev hn1 hn2 hat rfl rfl rfl).mono fun e w' ⟨he, hf, hg⟩ => ⟨he, ?_, hg⟩
      refine fit_clip ?_ ?_
      · unfold prodZ
        split <;> omega
      · unfold prodZ
        cases hne : (fneg u == fneg v) with
        | true =>
          rw [addSigned_plus u v _ _ hne, enc_add] at hf
          rw [if_neg (by rw [bne, hne]; decide)]
          exact hf
        | false =>
          rw [addSigned_minus u v _ _ hne, enc_sub _ _ (by show prodQ u v n ≤ TOP; omega)] at hf
          rw [if_pos (by rw [bne, hne]; decide), ← Int.sub_eq_add_neg]
          exact hf
/-- One, as a float64. -/
def ONE : Nat := 4607182418800017408
def addS (s : Option Int) (u : Nat) : Option Int := prodS s u ONE 0
theorem add_any (w : World) (b u : Nat) (s : Option Int) (h : AccIs w b s) (hu : u < B64) :
    Calls Tryd.prog 12 #[.pointer (some ⟨b, 0, none⟩), .float .f64 u] w fun e w' => e = .returned (.tuple #[]) ∧ AccIs w' b (addS s u) ∧ w.grownBy w' (some b) := by
  go_enter Tryd.func12, Tryd.ntmps12
  go_wp2_with fail
  refine (prod_any w b u ONE 0 s h hu (by decide)).mono ?_
  rintro e w1 ⟨rfl, ha, hg⟩
  go_wp2_with fail
  go_end0
  exact ⟨rfl, ha, hg⟩
end Go.Proofs.YtopilodakphhgaaDoor
