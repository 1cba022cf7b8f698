/- Box: the plain law: each point lies in it; no support of it is below. -/
import Derived.Test.YtpfbgenefjhcjaaGreatDoorZoPoint
import Derived.Test.YtpfbgenefjhcjaaGreatDoorZoLB
namespace Go.Proofs.YtpfbgenefjhcjaaGreatDoor
set_option linter.unusedVariables false
set_option linter.unusedSimpArgs false
open Go Go.RowKit
set_option maxRecDepth 100000
theorem up_ge {x : Int} {u : Nat} (h : roundS 1 (some x) = (u, true)) : x ≤ fz u := by
  rcases bet_any x with ⟨_, h1, _⟩ | ⟨_, h1, h2, _⟩ | ⟨v, _, h1, _, h2, _⟩ | ⟨a, b, _, h1, _, _, h2, _⟩
  · rw [h1] at h; cases h
  · rw [h1] at h; cases h; exact h2
  · rw [h1] at h; cases h; omega
  · rw [h1] at h; cases h; omega
theorem down_le {x : Int} {u : Nat} (h : roundS 2 (some x) = (u, true)) : fz u ≤ x := by
  rcases bet_any x with ⟨h1, _, h2, _⟩ | ⟨h1, _⟩ | ⟨v, h1, _, _, h2, _⟩ | ⟨a, b, h1, _, _, h2, _⟩
  · rw [h1] at h; cases h; exact h2
  · rw [h1] at h; cases h
  · rw [h1] at h; cases h; omega
  · rw [h1] at h; cases h; omega
/-- Where two magnitudes stand in their grids. -/
theorem grid {M M' q q' k k' r r' : Nat} (e : M = q * 2 ^ k + r) (e' : M' = q' * 2 ^ k' + r') (hr : r < 2 ^ k) (hr' : r' < 2 ^ k') (hq : q < 9007199254740992) (hq' : q' < 9007199254740992) (hk : k = 1138 ∨ 4503599627370496 ≤ q) (hk' : k' = 1138 ∨ 4503599627370496 ≤ q') (h1 : 1138 ≤ k) (h1' : 1138 ≤ k') (h : M ≤ M') :
    q * 2 ^ k ≤ q' * 2 ^ k' ∧ (q + (decide (0 < r)).toNat) * 2 ^ k ≤ (q' + (decide (0 < r')).toNat) * 2 ^ k' := by
  rcases Nat.lt_trichotomy k k' with hlt | rfl | hgt
  · have hq2 : 4503599627370496 ≤ q' := by omega
    have h2 : 2 ^ (k + 1) ≤ 2 ^ k' := Nat.pow_le_pow_right (by decide) hlt
    rw [Nat.pow_succ] at h2
    have h3 : 4503599627370496 * (2 ^ k * 2) ≤ q' * 2 ^ k' := Nat.mul_le_mul hq2 h2
    have h4 : (q + (decide (0 < r)).toNat) * 2 ^ k ≤ 9007199254740992 * 2 ^ k := Nat.mul_le_mul_right _ (by cases decide (0 < r) <;> simp <;> omega)
    have h5 : q * 2 ^ k ≤ (q + (decide (0 < r)).toNat) * 2 ^ k := Nat.mul_le_mul_right _ (Nat.le_add_right _ _)
    have h6 : q' * 2 ^ k' ≤ (q' + (decide (0 < r')).toNat) * 2 ^ k' := Nat.mul_le_mul_right _ (Nat.le_add_right _ _)
    generalize 2 ^ k = T at *
    generalize (q + (decide (0 < r)).toNat) * T = X at *
    generalize (q' + (decide (0 < r')).toNat) * 2 ^ k' = Y at *
    generalize q' * 2 ^ k' = Z at *
    generalize q * T = V at *
    omega
  · have hqq : q ≤ q' := by
      refine Nat.le_of_not_lt fun hgt => ?_
      have := Nat.mul_le_mul_right (2 ^ k) (show q' + 1 ≤ q from hgt)
      rw [Nat.add_mul, Nat.one_mul] at this
      generalize 2 ^ k = T at *
      generalize q * T = X at *
      generalize q' * T = Y at *
      omega
    refine ⟨Nat.mul_le_mul_right _ hqq, Nat.mul_le_mul_right _ ?_⟩
    rcases Nat.lt_or_ge q q' with h2 | h2
    · have h3 : (decide (0 < r)).toNat ≤ 1 := by cases decide (0 < r) <;> decide
      omega
    · have hqe : q = q' := Nat.le_antisymm hqq h2
      subst hqe
      have hrr : r ≤ r' := by
        generalize 2 ^ k = T at *
        generalize q * T = X at *
        omega
      by_cases h0 : 0 < r
      · rw [decide_eq_true h0, decide_eq_true (show 0 < r' by omega)]
        exact Nat.le_refl _
      · rw [decide_eq_false h0]
        exact Nat.le_add_right _ _
  · exfalso
    have hq2 : 4503599627370496 ≤ q := by omega
    have h2 : 2 ^ (k' + 1) ≤ 2 ^ k := Nat.pow_le_pow_right (by decide) hgt
    rw [Nat.pow_succ] at h2
    have h3 : 4503599627370496 * (2 ^ k' * 2) ≤ q * 2 ^ k := Nat.mul_le_mul hq2 h2
    have h4 : (q' + 1) * 2 ^ k' ≤ 9007199254740992 * 2 ^ k' := Nat.mul_le_mul_right _ (by omega)
    rw [Nat.add_mul, Nat.one_mul] at h4
    generalize 2 ^ k' = T at *
    generalize q' * T = X at *
    generalize q * 2 ^ k = Y at *
    omega
/-- A positive real, rounded up. -/
theorem up_pos {M u : Nat} (hM : 0 < M) (h : roundS 1 (some (M : Int)) = (u, true)) : ∃ q k r, M = q * 2 ^ k + r ∧ r < 2 ^ k ∧ q < 9007199254740992 ∧ 1138 ≤ k ∧ (k = 1138 ∨ 4503599627370496 ≤ q) ∧ fz u = (((q + (decide (0 < r)).toNat) * 2 ^ k : Nat) : Int) := by
  rw [roundS_pos 1 M hM, toldB_far 1 false M (by omega) (Or.inl rfl), show (((1 : Int) == 1) != false) = true from rfl, upF_true] at h
  obtain ⟨e, hr, hq, hk, hkq, hcase, _⟩ := mag_told false M _ _ _ hM rfl rfl rfl
  rcases hcase with ⟨h1, _⟩ | ⟨h1, _, _, h2, h3⟩
  · rw [h1] at h; cases h
  · rw [h1] at h
    cases h
    refine ⟨_, _, _, e, hr, hq, hk, hkq, ?_⟩
    have h4 : (decide (0 < M % 2 ^ shiftOf M)).toNat ≤ 1 := by cases decide (0 < M % 2 ^ shiftOf M) <;> decide
    exact (numB_facts false _ _ (by omega) hk h2 h3 (by omega)).2.2.2.2
/-- A negative real, rounded up. -/
theorem up_neg {M u : Nat} (hM : 0 < M) (h : roundS 1 (some (-(M : Int))) = (u, true)) : ∃ q k r, M = q * 2 ^ k + r ∧ r < 2 ^ k ∧ q < 9007199254740992 ∧ 1138 ≤ k ∧ (k = 1138 ∨ 4503599627370496 ≤ q) ∧ ((MOST ≤ M ∧ fz u = -(MOST : Int)) ∨ (k ≤ 3183 ∧ fz u = -((q * 2 ^ k : Nat) : Int))) := by
  rw [roundS_neg 1 M hM, toldB_far 1 true M (by omega) (Or.inl rfl), show (((1 : Int) == 1) != true) = false from rfl, upF_false] at h
  obtain ⟨e, hr, hq, hk, hkq, hcase, _⟩ := mag_told true M _ _ _ hM rfl rfl rfl
  refine ⟨_, _, _, e, hr, hq, hk, hkq, ?_⟩
  rw [show (false : Bool).toNat = 0 from rfl, Nat.add_zero] at h
  rcases hcase with ⟨_, h1, h2, _⟩ | ⟨_, h1, _, h2, h3⟩
  · rw [h1] at h
    cases h
    rw [numB_most.2]
    exact Or.inl ⟨h2, fz_most.2⟩
  · rw [h1] at h
    cases h
    exact Or.inr ⟨h2, (numB_facts true _ _ (by omega) hk h2 (fun _ => by omega) hkq).2.2.2.2⟩
theorem most_grid {q k : Nat} (hq : q < 9007199254740992) (hk : k ≤ 3183) : q * 2 ^ k ≤ MOST := by
  unfold MOST
  exact Nat.mul_le_mul (by omega) (Nat.pow_le_pow_right (by decide) (by unfold expM; exact hk))
theorem most_below {M q k r : Nat} (e : M = q * 2 ^ k + r) (hr : r < 2 ^ k) (hq : q < 9007199254740992) (hk : k ≤ 3183) (h : MOST ≤ M) : MOST ≤ q * 2 ^ k := by
  have hE : expM = 3183 := rfl
  unfold MOST at *
  generalize expM = E at *
  rcases Nat.lt_or_ge k E with h1 | h1
  · exfalso
    have h2 : 2 ^ (k + 1) ≤ 2 ^ E := Nat.pow_le_pow_right (by decide) h1
    rw [Nat.pow_succ] at h2
    have h3 : (q + 1) * 2 ^ k ≤ 9007199254740992 * 2 ^ k := Nat.mul_le_mul_right _ (by omega)
    rw [Nat.add_mul, Nat.one_mul] at h3
    generalize 2 ^ k = T at *
    generalize 2 ^ E = S at *
    generalize q * T = X at *
    omega
  · have hk3 : k = E := by omega
    clear hE
    subst hk3
    refine Nat.mul_le_mul_right _ (Nat.le_of_not_lt fun hlt => ?_)
    have h3 : (q + 1) * 2 ^ k ≤ 9007199254740991 * 2 ^ k := Nat.mul_le_mul_right _ (by omega)
    rw [Nat.add_mul, Nat.one_mul] at h3
    generalize 2 ^ k = S at *
    generalize q * S = X at *
    omega
/-- Rounding up turns no order. -/
theorem up_mono {x y : Int} {u v : Nat} (hx : roundS 1 (some x) = (u, true)) (hy : roundS 1 (some y) = (v, true)) (h : x ≤ y) : fz u ≤ fz v := by
  have hv := up_ge hy
  rcases Int.lt_trichotomy x 0 with x0 | x0 | x0
  · obtain ⟨M, rfl⟩ : ∃ M : Nat, x = -(M : Int) := ⟨x.natAbs, by omega⟩
    obtain ⟨q, k, r, e, hr, hq, hk, hkq, hf⟩ := up_neg (by omega) hx
    by_cases y0 : 0 ≤ y
    · rcases hf with ⟨_, hf⟩ | ⟨_, hf⟩ <;> omega
    · obtain ⟨N, rfl⟩ : ∃ N : Nat, y = -(N : Int) := ⟨y.natAbs, by omega⟩
      obtain ⟨q', k', r', e', hr', hq', hk', hkq', hf'⟩ := up_neg (by omega) hy
      have hg := (grid e' e hr' hr hq' hq hkq' hkq hk' hk (by omega)).1
      rcases hf with ⟨h1, hf⟩ | ⟨h1, hf⟩ <;> rcases hf' with ⟨h2, hf'⟩ | ⟨h2, hf'⟩
      · omega
      · have := most_grid hq' h2
        omega
      · have := most_below e hr hq h1 (by omega)
        omega
      · omega
  · subst x0
    rw [roundS_zero 1 (by omega)] at hx
    cases hx
    rw [fz_zero]
    omega
  · obtain ⟨M, rfl⟩ : ∃ M : Nat, x = (M : Int) := ⟨x.natAbs, by omega⟩
    obtain ⟨N, rfl⟩ : ∃ N : Nat, y = (N : Int) := ⟨y.natAbs, by omega⟩
    obtain ⟨q, k, r, e, hr, hq, hk, hkq, hf⟩ := up_pos (by omega) hx
    obtain ⟨q', k', r', e', hr', hq', hk', hkq', hf'⟩ := up_pos (by omega) hy
    have hg := (grid e e' hr hr' hq hq' hkq hkq' hk hk' (by omega)).2
    omega
/-! ### Sums -/
theorem sumTo_le {f g : Nat → Int} : ∀ n, (∀ i, i < n → f i ≤ g i) → sumTo f n ≤ sumTo g n := by
  intro n
  induction n with
  | zero => intro _; exact Int.le_refl _
  | succ n ih =>
    intro h
    exact Int.add_le_add (ih fun i hi => h i (by omega)) (h n (by omega))
theorem sumTo_mul (f : Nat → Int) (c : Int) : ∀ n, sumTo (fun i => f i * c) n = sumTo f n * c := by
  intro n
  induction n with
  | zero => exact (Int.zero_mul c).symm
  | succ n ih =>
    show sumTo (fun i => f i * c) n + f n * c = (sumTo f n + f n) * c
    rw [ih, Int.add_mul]
theorem sumTo_zero (n : Nat) : sumTo (fun _ => 0) n = 0 := by
  induction n with
  | zero => rfl
  | succ n ih => show sumTo (fun _ => 0) n + 0 = 0; rw [ih]; rfl
theorem sumTo_swap (f : Nat → Nat → Int) (m : Nat) : ∀ n, sumTo (fun i => sumTo (fun k => f i k) m) n = sumTo (fun k => sumTo (fun i => f i k) n) m := by
  intro n
  induction n with
  | zero => exact (sumTo_zero m).symm
  | succ n ih =>
    show sumTo (fun i => sumTo (fun k => f i k) m) n + sumTo (fun k => f n k) m = sumTo (fun k => sumTo (fun i => f i k) n + f n k) m
    rw [ih, sumTo_add]
theorem zabs_le (x : Int) : x ≤ zabs x := by unfold zabs; omega
theorem zabs_mul (x y : Int) : zabs (x * y) = zabs x * zabs y := by unfold zabs; rw [Int.natAbs_mul, Int.natCast_mul]
theorem zabs_nn (x : Int) : 0 ≤ zabs x := by unfold zabs; omega
theorem zabs_sum (f : Nat → Int) : ∀ n, zabs (sumTo f n) ≤ sumTo (fun i => zabs (f i)) n := by
  intro n
  induction n with
  | zero => exact Int.le_refl _
  | succ n ih =>
    show zabs (sumTo f n + f n) ≤ sumTo (fun i => zabs (f i)) n + zabs (f n)
    unfold zabs at *
    omega
theorem dotZ_UN (d l : List Nat) (n : Nat) : dotZ d l n * (UN : Nat) = sumTo (fun i => fz (d.getD i 0) * fz (l.getD i 0)) n := by
  unfold dotZ
  rw [← sumTo_mul]
  exact sumTo_congr _ _ _ fun i _ => prodZ_fz _ _
theorem absF_at {d : List Nat} (sd : Small d) (i : Nat) : fz (absF (d.getD i 0)) = zabs (fz (d.getD i 0)) := by
  refine absF_fz _ ?_
  rw [List.getD_eq_getElem?_getD]
  cases hi : d[i]? with
  | none => decide
  | some u => exact sd.at i u hi
theorem zabs_UN (x : Int) : zabs x * (UN : Nat) = zabs (x * (UN : Nat)) := by
  rw [zabs_mul]
  congr 1
/-- The support, by whole numbers alone. -/
theorem supZ_UN (z : ZD) {d : List Nat} (sd : Small d) : supZ z d * (UN : Nat) = sumTo (fun i => fz (d.getD i 0) * fz (z.c.getD i 0)) z.n.toNat + sumTo (fun k => zabs (sumTo (fun i => fz (d.getD i 0) * fz ((colZ z k).getD i 0)) z.n.toNat)) z.g.length + sumTo (fun i => zabs (fz (d.getD i 0)) * fz (z.r.getD i 0)) z.n.toNat := by
  unfold supZ
  rw [Int.add_mul, Int.add_mul, dotZ_UN, ← sumTo_mul, ← sumTo_mul]
  congr 1
  · congr 1
    refine sumTo_congr _ _ _ fun k _ => ?_
    rw [zabs_UN, dotZ_UN]
  · refine sumTo_congr _ _ _ fun i _ => ?_
    rw [prodZ_fz, absF_at sd]
theorem boxT_get {z : ZD} : ∀ {k : Nat} {r : List Nat}, boxT z k = some r → ∀ i, i < k → roundS 1 (some (reachZ z i)) = (r.getD i 0, true) := by
  intro k
  induction k with
  | zero => intro r h i hi; omega
  | succ k ih =>
    intro r h i hi
    cases hb : boxT z k with
    | none => rw [boxT_none hb _ (Nat.le_succ _)] at h; cases h
    | some r' =>
      cases ho : (roundS 1 (some (reachZ z k))).2 with
      | false => rw [boxT_over hb ho] at h; cases h
      | true =>
        rw [boxT_more (u := (roundS 1 (some (reachZ z k))).1) hb (by rw [← ho])] at h
        cases h
        have hl := boxT_len hb
        by_cases hik : i < k
        · rw [List.getD_eq_getElem?_getD, List.getElem?_append_left (by omega), ← List.getD_eq_getElem?_getD]
          exact ih hb i hik
        · obtain rfl : i = k := by omega
          rw [List.getD_eq_getElem?_getD, List.getElem?_append_right (by omega), hl, Nat.sub_self]
          show _ = ((roundS 1 (some (reachZ z i))).1, true)
          rw [← ho]
/-- No support of the box is below. -/
theorem sup_box {z : ZD} {r : List Nat} {d : List Nat} (sd : Small d) (h : boxT z z.n.toNat = some r) : supZ z d ≤ supZ (boxZ z r) d := by
  have hu := UN_pos
  have key : supZ z d * (UN : Nat) ≤ supZ (boxZ z r) d * (UN : Nat) := by
    rw [supZ_UN z sd, supZ_UN (boxZ z r) sd]
    have e1 : sumTo (fun i => fz (d.getD i 0) * fz ((boxZ z r).c.getD i 0)) (boxZ z r).n.toNat = sumTo (fun i => fz (d.getD i 0) * fz (z.c.getD i 0)) z.n.toNat := sumTo_congr _ _ _ fun i _ => by
      show fz (d.getD i 0) * fz ((z.c.map plainU).getD i 0) = _
      rw [getD_map_plain, plainU_fz]
    have e2 : sumTo (fun k => zabs (sumTo (fun i => fz (d.getD i 0) * fz ((colZ (boxZ z r) k).getD i 0)) (boxZ z r).n.toNat)) (boxZ z r).g.length = 0 := rfl
    rw [e1, e2]
    have h1 : sumTo (fun k => zabs (sumTo (fun i => fz (d.getD i 0) * fz ((colZ z k).getD i 0)) z.n.toNat)) z.g.length ≤ sumTo (fun i => sumTo (fun k => zabs (fz (d.getD i 0)) * zabs (fz ((colZ z k).getD i 0))) z.g.length) z.n.toNat := by
      rw [sumTo_swap]
      refine sumTo_le _ fun k _ => ?_
      refine Int.le_trans (zabs_sum _ _) (Int.le_of_eq (sumTo_congr _ _ _ fun i _ => zabs_mul _ _))
    have h2 : sumTo (fun i => sumTo (fun k => zabs (fz (d.getD i 0)) * zabs (fz ((colZ z k).getD i 0))) z.g.length) z.n.toNat + sumTo (fun i => zabs (fz (d.getD i 0)) * fz (z.r.getD i 0)) z.n.toNat = sumTo (fun i => zabs (fz (d.getD i 0)) * reachZ z i) z.n.toNat := by
      rw [← sumTo_add]
      refine sumTo_congr _ _ _ fun i _ => ?_
      unfold reachZ
      rw [Int.mul_add, Int.add_comm]
      congr 1
      have := sumTo_mul (fun k => zabs (fz ((colZ z k).getD i 0))) (zabs (fz (d.getD i 0))) z.g.length
      rw [Int.mul_comm, ← this]
      exact sumTo_congr _ _ _ fun k _ => Int.mul_comm _ _
    have h3 : sumTo (fun i => zabs (fz (d.getD i 0)) * reachZ z i) z.n.toNat ≤ sumTo (fun i => zabs (fz (d.getD i 0)) * fz ((boxZ z r).r.getD i 0)) (boxZ z r).n.toNat := by
      refine sumTo_le _ fun i hi => ?_
      exact Int.mul_le_mul_of_nonneg_left (up_ge (boxT_get h i hi)) (zabs_nn _)
    omega
  exact Int.le_of_mul_le_mul_right key (by omega)
/-- Each point lies as near to the centre as the reach says. -/
theorem pt_near {z : ZD} (hz : Good z) {es rs : List Int} (he : Unit1 es) (hr : Unit1 rs) (i : Nat) : zabs (ptZ z es rs i - fz (z.c.getD i 0)) ≤ reachZ z i := by
  have h1 := mulZ_le (x := rs.getD i 0) (y := fz (z.r.getD i 0)) (hr i)
  have h2 := zabs_sum (fun k => mulZ (es.getD k 0) (fz ((colZ z k).getD i 0))) z.g.length
  have h3 : sumTo (fun k => zabs (mulZ (es.getD k 0) (fz ((colZ z k).getD i 0)))) z.g.length ≤ sumTo (fun k => zabs (fz ((colZ z k).getD i 0))) z.g.length := sumTo_le _ fun k _ => by
    have := mulZ_le (x := es.getD k 0) (y := fz ((colZ z k).getD i 0)) (he k)
    unfold zabs
    omega
  have h4 := hz.posAt i
  unfold ptZ ptT reachZ
  generalize sumTo (fun k => mulZ (es.getD k 0) (fz ((colZ z k).getD i 0))) z.g.length = X at *
  generalize sumTo (fun k => zabs (fz ((colZ z k).getD i 0))) z.g.length = Y at *
  generalize mulZ (rs.getD i 0) (fz (z.r.getD i 0)) = V at *
  generalize fz (z.r.getD i 0) = R at *
  unfold zabs at *
  omega
/-- The parts lie from -1 to 1. -/
theorem part_unit (l : List Int) (k : Nat) (nb : Int) : (partZ l k nb).natAbs ≤ UN := by
  unfold partZ
  split
  · unfold oneZ
    omega
  · next li _ =>
    have hq := bitsQ_lt nb
    generalize bitsQ nb = q at *
    obtain ⟨s, hs, hs1, hs2, i, hi, hil⟩ := idx_tmod li (2 * 2 ^ q + 1) (by omega)
    rw [show ((2 * 2 ^ q + 1 : Nat) : Int) = 2 * ((2 ^ q : Nat) : Int) + 1 by omega] at *
    rw [hs, hi, Int.natAbs_mul]
    have e : UN = 2 ^ q * 2 ^ (expU - q) := by
      unfold UN
      rw [← Nat.pow_add]
      congr 1
      unfold expU
      omega
    rw [e]
    refine Nat.mul_le_mul ?_ ?_
    · generalize 2 ^ q = P at *
      omega
    · rw [Int.natAbs_natCast]
      exact Nat.le_refl _
theorem parts_unit (l : List Int) (fr n : Nat) (nb : Int) : Unit1 (partsZ l fr n nb) := fun k => by
  unfold partsZ
  rw [List.getD_eq_getElem?_getD, List.getElem?_map]
  cases (List.range n)[k]? with
  | none => exact Nat.zero_le _
  | some j => exact part_unit _ _ _
end Go.Proofs.YtpfbgenefjhcjaaGreatDoor
