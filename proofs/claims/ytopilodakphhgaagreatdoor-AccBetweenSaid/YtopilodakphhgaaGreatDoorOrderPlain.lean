/- Sums of products of terms: no product is too great; a sum in another order, with things added and taken away, is the same. No program but the names. -/
import Derived.Test.YtopilodakphhgaaGreatDoorTermsAll
namespace Go.Proofs.YtopilodakphhgaaGreatDoor
set_option linter.unusedVariables false
set_option linter.unusedSimpArgs false
open Go Go.RowKit
set_option maxRecDepth 100000
def valT (t : Trm) : Int := prodZ t.a t.b t.n
def fineT (t : Trm) : Prop := t.a < B64 ∧ t.b < B64 ∧ fexp t.a ≠ 2047 ∧ fexp t.b ≠ 2047 ∧ -64 ≤ t.n ∧ t.n ≤ 64
def sumT (ts : List Trm) : Int := (ts.map valT).sum
/-- Above each product. -/
def expK : Nat := 4324
def KT : Nat := 2 ^ expK
theorem KT_LIM : 1000 * KT < LIM := by decide +kernel
theorem valT_lt (t : Trm) (h : fineT t) : (valT t).natAbs < KT := by
  obtain ⟨ha, hb, ea, eb, h1, h2⟩ := h
  have h3 := sig_lt t.a
  have h4 := sig_lt t.b
  have h5 := pwr_le t.a ea
  have h6 := pwr_le t.b eb
  have h7 := pwr_ge t.a
  have h8 := pwr_ge t.b
  have hq : prodQ t.a t.b t.n < KT := by
    unfold prodQ KT
    generalize hx : (pwr t.a + pwr t.b + t.n + 2212).toNat = x
    have h9 : sig t.a * sig t.b < 2 ^ 106 := by
      have : (2 : Nat) ^ 106 = 9007199254740992 * 9007199254740992 := by decide
      rw [this]
      exact Nat.mul_lt_mul'' h3 h4
    have h10 : sig t.a * sig t.b * 2 ^ x < 2 ^ 106 * 2 ^ x := Nat.mul_lt_mul_of_pos_right h9 (Nat.two_pow_pos _)
    rw [← Nat.pow_add] at h10
    exact Nat.lt_of_lt_of_le h10 (Nat.pow_le_pow_right (by omega) (by unfold expK; omega))
  unfold valT prodZ
  split <;> omega
theorem prodS_of (z : Int) (t : Trm) (h : fineT t) (hz : (z + valT t).natAbs < LIM) : prodS (some z) t.a t.b t.n = some (z + valT t) := by
  obtain ⟨ha, hb, ea, eb, h1, h2⟩ := h
  unfold prodS
  simp only
  rw [if_neg (by omega)]
  exact if_pos hz
theorem nf_valT (t : Trm) (h : fineT t) : prodZ (nf t.a) t.b t.n = -valT t := by
  obtain ⟨ha, hb, ea, eb, h1, h2⟩ := h
  unfold valT prodZ prodQ
  rw [nf_sig t.a ha, nf_pwr t.a ha, nf_fneg t.a ha]
  cases fneg t.a <;> cases fneg t.b <;> simp
theorem prodS_neg (z : Int) (t : Trm) (h : fineT t) (hz : (z - valT t).natAbs < LIM) : prodS (some z) (nf t.a) t.b t.n = some (z - valT t) := by
  have h0 := nf_valT t h
  obtain ⟨ha, hb, ea, eb, h1, h2⟩ := h
  have e1 := nf_fexp t.a ha
  unfold prodS
  simp only
  rw [if_neg (by rw [e1]; omega), h0]
  exact if_pos hz
theorem fine_pick (ts : List Trm) (h : ∀ t ∈ ts, t.a < B64 ∧ t.b < B64) : ∀ t ∈ pickT ts, fineT t := by
  intro t ht
  unfold pickT at ht
  obtain ⟨u, hu, rfl⟩ := List.mem_map.1 ht
  obtain ⟨hm, ho⟩ := List.mem_filter.1 hu
  obtain ⟨ha, hb⟩ := h u hm
  unfold okT at ho
  rw [Bool.and_eq_true, bne_iff_ne, bne_iff_ne] at ho
  have h1 := Int.tmod_lt_of_pos u.n (show (0 : Int) < 65 by decide)
  have h2 := Int.lt_tmod_of_pos u.n (show (0 : Int) < 65 by decide)
  exact ⟨ha, hb, ho.1, ho.2, by show -64 ≤ u.n.tmod 65; omega, by show u.n.tmod 65 ≤ 64; omega⟩
theorem sumT_next (ts : List Trm) (k : Nat) (t : Trm) (h : ts[k]? = some t) : sumT (ts.take (k + 1)) = sumT (ts.take k) + valT t := by
  rw [List.take_add_one, h]
  simp [sumT]
theorem sumT_lt (ts : List Trm) (h : ∀ t ∈ ts, fineT t) : (sumT ts).natAbs ≤ ts.length * KT := by
  induction ts with
  | nil => simp [sumT]
  | cons t r ih =>
    have h1 := valT_lt t (h t (by simp))
    have h2 := ih (fun u hu => h u (by simp [hu]))
    have h3 : sumT (t :: r) = valT t + sumT r := by simp [sumT]
    rw [h3, List.length_cons, Nat.add_mul, Nat.one_mul]
    omega
theorem sumT_take (ts : List Trm) (k : Nat) (h : ∀ t ∈ ts, fineT t) : (sumT (ts.take k)).natAbs ≤ k * KT := by
  have h1 := sumT_lt (ts.take k) (fun t ht => h t (List.mem_of_mem_take ht))
  have h2 : (ts.take k).length ≤ k := by rw [List.length_take]; omega
  exact Nat.le_trans h1 (Nat.mul_le_mul_right _ h2)
theorem sumT_without (ts : List Trm) (k : Nat) (t : Trm) (h : ts[k]? = some t) : sumT (ts.take k ++ ts.drop (k + 1)) = sumT ts - valT t := by
  have h1 : ts = ts.take k ++ (t :: ts.drop (k + 1)) := by
    obtain ⟨hk, he⟩ := List.getElem?_eq_some_iff.1 h
    rw [← he, List.getElem_cons_drop, List.take_append_drop]
  have h2 : sumT ts = sumT (ts.take k) + (valT t + sumT (ts.drop (k + 1))) := by
    conv => lhs; rw [h1]
    simp [sumT]
  have h3 : sumT (ts.take k ++ ts.drop (k + 1)) = sumT (ts.take k) + sumT (ts.drop (k + 1)) := by simp [sumT]
  omega
end Go.Proofs.YtopilodakphhgaaGreatDoor
