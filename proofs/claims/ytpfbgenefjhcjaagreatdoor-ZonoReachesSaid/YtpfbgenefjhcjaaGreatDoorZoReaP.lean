/- Reaches: the plain law: the point of the ends goes as far as the support; no point goes beyond. -/
import Derived.Test.YtpfbgenefjhcjaaGreatDoorZoBoxS
namespace Go.Proofs.YtpfbgenefjhcjaaGreatDoor
set_option linter.unusedVariables false
set_option linter.unusedSimpArgs false
open Go Go.RowKit
set_option maxRecDepth 100000
/-! ### What is exact -/
/-- A whole number of 2^a units. -/
def Ex (a : Nat) (z : Int) : Prop := ∃ q : Int, z = q * ((2 ^ a : Nat) : Int)
theorem Ex.zero (a : Nat) : Ex a 0 := ⟨0, (Int.zero_mul _).symm⟩
theorem Ex.add {a : Nat} {x y : Int} (h1 : Ex a x) (h2 : Ex a y) : Ex a (x + y) := by
  obtain ⟨p, rfl⟩ := h1
  obtain ⟨q, rfl⟩ := h2
  exact ⟨p + q, (Int.add_mul _ _ _).symm⟩
theorem Ex.less {a b : Nat} {x : Int} (h : Ex b x) (hab : a ≤ b) : Ex a x := by
  obtain ⟨q, rfl⟩ := h
  refine ⟨q * ((2 ^ (b - a) : Nat) : Int), ?_⟩
  rw [Int.mul_assoc, ← Int.natCast_mul, ← Nat.pow_add, Nat.sub_add_cancel hab]
theorem Ex.sum {a : Nat} {f : Nat → Int} (h : ∀ i, Ex a (f i)) : ∀ n, Ex a (sumTo f n) := by
  intro n
  induction n with
  | zero => exact Ex.zero a
  | succ n ih => exact Ex.add ih (h n)
theorem Ex.mul {a b c : Nat} {x y : Int} (h1 : Ex a x) (h2 : Ex b y) (h : expU + c ≤ a + b) : Ex c (mulZ x y) ∧ mulZ x y * (UN : Nat) = x * y := by
  obtain ⟨p, rfl⟩ := h1
  obtain ⟨q, rfl⟩ := h2
  have key : p * q * ((2 ^ (a + b - expU) : Nat) : Int) * (UN : Nat) = p * ((2 ^ a : Nat) : Int) * (q * ((2 ^ b : Nat) : Int)) := by
    unfold UN
    rw [Int.mul_assoc (p * q), ← Int.natCast_mul, ← Nat.pow_add, show a + b - expU + expU = a + b by omega, Nat.pow_add, Int.natCast_mul]
    rw [Int.mul_assoc, Int.mul_assoc, Int.mul_left_comm q]
  rw [mulZ_of key]
  exact ⟨Ex.less ⟨p * q, rfl⟩ (by omega), key⟩
theorem fz_ex (u : Nat) : Ex 1138 (fz u) := by
  have h := pwr_ge u
  unfold fz
  exact Ex.less (b := (pwr u + 2212).toNat) ⟨sgn (fneg u) (sig u), sgn_mul _ _ _⟩ (by omega)
theorem one_ex : Ex 2196 oneZ := by
  have he : expU = 2212 := rfl
  refine Ex.less (b := expU) ⟨1, ?_⟩ (by omega)
  unfold oneZ UN
  exact (Int.one_mul _).symm
theorem Ex.neg {a : Nat} {x : Int} (h : Ex a x) : Ex a (-x) := by
  obtain ⟨p, rfl⟩ := h
  exact ⟨-p, (Int.neg_mul _ _).symm⟩
theorem part_ex (l : List Int) (k : Nat) (nb : Int) : Ex 2196 (partZ l k nb) := by
  have hq := bitsQ_lt nb
  have he : expU = 2212 := rfl
  unfold partZ
  split
  · exact one_ex
  · exact Ex.less (b := expU - bitsQ nb) ⟨_, rfl⟩ (by omega)
/-- Parts, all of them exact. -/
def Part1 (es : List Int) : Prop := ∀ k, Ex 2196 (es.getD k 0)
theorem getD_map0 {α : Type} (f : α → Int) (l : List α) (k : Nat) (d : α) (h : ∀ x, Ex 2196 (f x)) : Ex 2196 ((l.map f).getD k 0) := by
  rw [List.getD_eq_getElem?_getD, List.getElem?_map]
  cases l[k]? with
  | none => exact Ex.zero _
  | some j => exact h j
theorem parts_ex (l : List Int) (fr n : Nat) (nb : Int) : Part1 (partsZ l fr n nb) := fun k => getD_map0 _ _ k 0 fun j => part_ex _ _ _
/-- As a number's sign wants it: 1 or -1. -/
def sgnZ (x : Int) : Int := if x < 0 then -oneZ else oneZ
theorem sgnZ_ex (x : Int) : Ex 2196 (sgnZ x) := by
  unfold sgnZ
  split
  · exact one_ex.neg
  · exact one_ex
theorem sgnZ_unit (x : Int) : (sgnZ x).natAbs ≤ UN := by
  unfold sgnZ oneZ
  split <;> omega
def endsZ (z : ZD) (d : List Nat) (m : Nat) : List Int := (List.range m).map fun k => sgnZ (dotZ d (colZ z k) z.n.toNat)
def signsZ (d : List Nat) (m : Nat) : List Int := (List.range m).map fun i => sgnZ (fz (d.getD i 0))
theorem range_map_get (f : Nat → Int) (m k : Nat) (h : k < m) : ((List.range m).map f).getD k 0 = f k := by
  rw [List.getD_eq_getElem?_getD, List.getElem?_map, List.getElem?_range h]
  rfl
theorem range_map_unit (f : Nat → Int) (m : Nat) (h : ∀ k, (f k).natAbs ≤ UN) : Unit1 ((List.range m).map f) := fun k => by
  rw [List.getD_eq_getElem?_getD, List.getElem?_map]
  cases (List.range m)[k]? with
  | none => exact Nat.zero_le _
  | some j => exact h j
theorem ends_unit (z : ZD) (d : List Nat) (m : Nat) : Unit1 (endsZ z d m) := range_map_unit _ _ fun _ => sgnZ_unit _
theorem signs_unit (d : List Nat) (m : Nat) : Unit1 (signsZ d m) := range_map_unit _ _ fun _ => sgnZ_unit _
theorem ends_ex (z : ZD) (d : List Nat) (m : Nat) : Part1 (endsZ z d m) := fun k => getD_map0 _ _ k 0 fun j => sgnZ_ex _
theorem signs_ex (d : List Nat) (m : Nat) : Part1 (signsZ d m) := fun k => getD_map0 _ _ k 0 fun j => sgnZ_ex _
theorem ends_succ (z : ZD) (d : List Nat) (m : Nat) : endsZ z d (m + 1) = endsZ z d m ++ [sgnZ (dotZ d (colZ z m) z.n.toNat)] := by
  unfold endsZ
  rw [List.range_succ, List.map_append]
  rfl
theorem signs_succ (d : List Nat) (m : Nat) : signsZ d (m + 1) = signsZ d m ++ [sgnZ (fz (d.getD m 0))] := by
  unfold signsZ
  rw [List.range_succ, List.map_append]
  rfl
theorem ends_length (z : ZD) (d : List Nat) (m : Nat) : (endsZ z d m).length = m := by
  unfold endsZ
  rw [List.length_map, List.length_range]
theorem signs_length (d : List Nat) (m : Nat) : (signsZ d m).length = m := by
  unfold signsZ
  rw [List.length_map, List.length_range]
/-! ### The product of a direction and a point -/
theorem map_fz_get (l : List Nat) (i : Nat) : (l.map fz).getD i 0 = fz (l.getD i 0) := by
  rw [List.getD_eq_getElem?_getD, List.getElem?_map, List.getD_eq_getElem?_getD]
  cases l[i]? with
  | none => exact fz_zero.symm
  | some u => rfl
theorem prod_dot (d l : List Nat) (n : Nat) : prodN (d.map fz) (l.map fz) n = dotZ d l n := by
  unfold prodN dotZ
  refine sumTo_congr _ _ _ fun i _ => ?_
  rw [map_fz_get, map_fz_get, mulZ_fz]
theorem pointZ_get (z : ZD) (es rs : List Int) (n i : Nat) (h : i < n) : (pointZ z es rs n).getD i 0 = ptZ z es rs i := range_map_get _ _ _ h
theorem pt_UN {z : ZD} {es rs : List Int} (he : Part1 es) (hr : Part1 rs) (i : Nat) : Ex 1122 (ptZ z es rs i) ∧ ptZ z es rs i * (UN : Nat) = fz (z.c.getD i 0) * (UN : Nat) + rs.getD i 0 * fz (z.r.getD i 0) + sumTo (fun k => es.getD k 0 * fz ((colZ z k).getD i 0)) z.g.length := by
  have hU : expU = 2212 := rfl
  have h1 := Ex.mul (c := 1122) (hr i) (fz_ex (z.r.getD i 0)) (by omega)
  have h2 := fun k => Ex.mul (c := 1122) (he k) (fz_ex ((colZ z k).getD i 0)) (by omega)
  constructor
  · exact Ex.add (Ex.add (Ex.less (fz_ex _) (by decide)) h1.1) (Ex.sum (fun k => (h2 k).1) _)
  · unfold ptZ ptT
    rw [Int.add_mul, Int.add_mul, h1.2, ← sumTo_mul]
    congr 1
    exact sumTo_congr _ _ _ fun k _ => (h2 k).2
/-- The product of a direction and a point, by whole numbers alone. -/
theorem dot_pt {z : ZD} {es rs : List Int} (he : Part1 es) (hr : Part1 rs) (d : List Nat) : prodN (d.map fz) (pointZ z es rs z.n.toNat) z.n.toNat * (UN : Nat) * (UN : Nat) = sumTo (fun i => fz (d.getD i 0) * fz (z.c.getD i 0)) z.n.toNat * (UN : Nat) + sumTo (fun k => sumTo (fun i => fz (d.getD i 0) * fz ((colZ z k).getD i 0)) z.n.toNat * es.getD k 0) z.g.length + sumTo (fun i => fz (d.getD i 0) * rs.getD i 0 * fz (z.r.getD i 0)) z.n.toNat := by
  have hU : expU = 2212 := rfl
  have e1 : prodN (d.map fz) (pointZ z es rs z.n.toNat) z.n.toNat * (UN : Nat) = sumTo (fun i => fz (d.getD i 0) * ptZ z es rs i) z.n.toNat := by
    unfold prodN
    rw [← sumTo_mul]
    refine sumTo_congr _ _ _ fun i hi => ?_
    rw [map_fz_get, pointZ_get _ _ _ _ _ hi]
    exact (Ex.mul (c := 0) (fz_ex _) (pt_UN he hr i).1 (by omega)).2
  rw [e1, ← sumTo_mul]
  have e2 : sumTo (fun k => sumTo (fun i => fz (d.getD i 0) * fz ((colZ z k).getD i 0)) z.n.toNat * es.getD k 0) z.g.length = sumTo (fun i => sumTo (fun k => fz (d.getD i 0) * fz ((colZ z k).getD i 0) * es.getD k 0) z.g.length) z.n.toNat := by
    rw [sumTo_swap]
    exact sumTo_congr _ _ _ fun k _ => (sumTo_mul _ _ _).symm
  rw [e2, ← sumTo_mul, ← sumTo_add, ← sumTo_add]
  refine sumTo_congr _ _ _ fun i _ => ?_
  rw [Int.mul_assoc, (pt_UN he hr i).2, Int.mul_add, Int.mul_add]
  have e3 : fz (d.getD i 0) * sumTo (fun k => es.getD k 0 * fz ((colZ z k).getD i 0)) z.g.length = sumTo (fun k => fz (d.getD i 0) * fz ((colZ z k).getD i 0) * es.getD k 0) z.g.length := by
    rw [Int.mul_comm, ← sumTo_mul]
    refine sumTo_congr _ _ _ fun k _ => ?_
    rw [Int.mul_comm (es.getD k 0), Int.mul_right_comm, Int.mul_comm (fz ((colZ z k).getD i 0))]
  rw [e3, ← Int.mul_assoc, ← Int.mul_assoc]
  omega
theorem mul_unit {x e : Int} (h : e.natAbs ≤ UN) : x * e ≤ zabs x * (UN : Nat) := by
  refine Int.le_trans (zabs_le _) ?_
  rw [zabs_mul]
  exact Int.mul_le_mul_of_nonneg_left (by unfold zabs; omega) (zabs_nn x)
theorem mul_sgn (x : Int) : x * sgnZ x = zabs x * (UN : Nat) := by
  unfold sgnZ oneZ
  split
  · next h =>
    rw [show zabs x = -x by unfold zabs; omega, Int.mul_neg, Int.neg_mul]
  · next h =>
    rw [show zabs x = x by unfold zabs; omega]
theorem sgn_UN (x : Int) : sgnZ (x * (UN : Nat)) = sgnZ x := by
  unfold sgnZ
  have hu := UN_pos
  by_cases h : x < 0
  · rw [if_pos h, if_pos (Int.mul_neg_of_neg_of_pos h hu)]
  · rw [if_neg h, if_neg (Int.not_lt.2 (Int.mul_nonneg (Int.not_lt.1 h) (Int.le_of_lt hu)))]
/-- The point of the ends goes as far as the support. -/
theorem far_sup (z : ZD) {d : List Nat} (sd : Small d) : prodN (d.map fz) (pointZ z (endsZ z d z.g.length) (signsZ d z.n.toNat) z.n.toNat) z.n.toNat = supZ z d := by
  have hu := UN_pos
  have key : prodN (d.map fz) (pointZ z (endsZ z d z.g.length) (signsZ d z.n.toNat) z.n.toNat) z.n.toNat * (UN : Nat) * (UN : Nat) = supZ z d * (UN : Nat) * (UN : Nat) := by
    rw [dot_pt (ends_ex _ _ _) (signs_ex _ _), supZ_UN z sd, Int.add_mul, Int.add_mul]
    congr 1
    · congr 1
      rw [← sumTo_mul]
      refine sumTo_congr _ _ _ fun k hk => ?_
      rw [show (endsZ z d z.g.length).getD k 0 = _ from range_map_get _ _ _ hk, ← sgn_UN, dotZ_UN, mul_sgn]
    · rw [← sumTo_mul]
      refine sumTo_congr _ _ _ fun i hi => ?_
      rw [show (signsZ d z.n.toNat).getD i 0 = _ from range_map_get _ _ _ hi, mul_sgn, Int.mul_right_comm]
  exact Int.eq_of_mul_eq_mul_right (Int.ne_of_gt hu) (Int.eq_of_mul_eq_mul_right (Int.ne_of_gt hu) key)
/-- No point goes beyond. -/
theorem pt_sup {z : ZD} (hz : Good z) {d : List Nat} (sd : Small d) {es rs : List Int} (he : Part1 es) (hr : Part1 rs) (ue : Unit1 es) (ur : Unit1 rs) : prodN (d.map fz) (pointZ z es rs z.n.toNat) z.n.toNat ≤ supZ z d := by
  have hu := UN_pos
  have key : prodN (d.map fz) (pointZ z es rs z.n.toNat) z.n.toNat * (UN : Nat) * (UN : Nat) ≤ supZ z d * (UN : Nat) * (UN : Nat) := by
    rw [dot_pt he hr, supZ_UN z sd, Int.add_mul, Int.add_mul]
    refine Int.add_le_add (Int.add_le_add (Int.le_refl _) ?_) ?_
    · rw [← sumTo_mul]
      exact sumTo_le _ fun k _ => mul_unit (ue k)
    · rw [← sumTo_mul]
      refine sumTo_le _ fun i _ => ?_
      have h4 := hz.posAt i
      have h5 := mul_unit (x := fz (d.getD i 0)) (ur i)
      have h6 := Int.mul_le_mul_of_nonneg_right h5 h4
      rw [Int.mul_right_comm (zabs _)] at h6
      exact h6
  exact Int.le_of_mul_le_mul_right (Int.le_of_mul_le_mul_right key hu) hu
/-! ### Bounds of these reals -/
theorem W200_of {x k : Nat} (hk : k ≤ 31) (h : x ≤ 2 ^ k * FB) : x < W32 ^ 200 := by
  refine Nat.lt_of_le_of_lt h ?_
  obtain ⟨b, hb⟩ : ∃ b, b = 200 := ⟨200, rfl⟩
  rw [← hb, W32_two]
  unfold FB
  rw [← Nat.pow_add]
  exact Nat.pow_lt_pow_right (by decide) (by unfold expF; omega)
theorem ptZ_W {z : ZD} (hz : Good z) {es rs : List Int} (he : Unit1 es) (hr : Unit1 rs) (i : Nat) : (ptZ z es rs i).natAbs < W32 ^ 200 := by
  have h1 := hz.cols
  have h2 := pt_bound hz he hr i z.g.length
  have h3 : 2 + z.g.length ≤ 2 ^ 31 := by
    rw [show (2 : Nat) ^ 31 = 2147483648 from rfl]
    omega
  exact W200_of (k := 31) (by decide) (Nat.le_trans h2 (Nat.mul_le_mul_right _ h3))
theorem mulZ_abs (x y : Int) : (mulZ x y).natAbs ≤ x.natAbs * y.natAbs := by
  unfold mulZ
  rw [← Int.natAbs_mul]
  exact Int.natAbs_ediv_le_natAbs _ _
def expQ : Nat := 6530
def QB : Nat := 2 ^ expQ
theorem prodN_W {z : ZD} (hz : Good z) {d : List Nat} (hd : ∀ u ∈ d, fexp u ≠ 2047) {es rs : List Int} (he : Unit1 es) (hr : Unit1 rs) (k : Nat) (hk : k ≤ z.n.toNat) : (prodN (d.map fz) (pointZ z es rs z.n.toNat) k).natAbs < QB := by
  have h1 := hz.cols
  have hn := hz.n2
  have h0 : ∀ i, (pointZ z es rs z.n.toNat).getD i 0 = 0 ∨ (pointZ z es rs z.n.toNat).getD i 0 = ptZ z es rs i := fun i => by
    by_cases hi : i < z.n.toNat
    · exact Or.inr (pointZ_get _ _ _ _ _ hi)
    · left
      rw [List.getD_eq_getElem?_getD, List.getElem?_eq_none (by rw [pointZ_length]; omega)]
      rfl
  have h2 : ∀ i, ((pointZ z es rs z.n.toNat).getD i 0).natAbs ≤ 2 ^ 31 * FB := fun i => by
    rcases h0 i with e | e
    · rw [e]; exact Nat.zero_le _
    · rw [e]
      exact Nat.le_trans (pt_bound hz he hr i z.g.length) (Nat.mul_le_mul_right _ (by rw [show (2 : Nat) ^ 31 = 2147483648 from rfl]; omega))
  have h3 := sumTo_bound (fun i => mulZ ((d.map fz).getD i 0) ((pointZ z es rs z.n.toNat).getD i 0)) (FB * (2 ^ 31 * FB)) k fun i _ => by
    refine Nat.le_trans (mulZ_abs _ _) (Nat.mul_le_mul ?_ (h2 i))
    rw [map_fz_get]
    exact Nat.le_of_lt (fz_lt _ (getD_num d hd i))
  have h4 : k ≤ 2 ^ 24 := by
    rw [show (2 : Nat) ^ 24 = 16777216 from rfl]
    omega
  refine Nat.lt_of_le_of_lt (Nat.le_trans h3 (Nat.mul_le_mul_right _ h4)) ?_
  unfold FB QB
  rw [← Nat.pow_add, ← Nat.pow_add, ← Nat.pow_add]
  exact Nat.pow_lt_pow_right (by decide) (by unfold expF expQ; omega)
theorem W400_of {x : Nat} (h : x < 2 * QB) : x < W32 ^ 400 := by
  refine Nat.lt_trans h ?_
  unfold QB
  rw [← Nat.pow_succ']
  obtain ⟨b, hb⟩ : ∃ b, b = 400 := ⟨400, rfl⟩
  rw [← hb, W32_two]
  exact Nat.pow_lt_pow_right (by decide) (by unfold expQ; omega)
/-! ### The bounds -/
theorem pt_in {z : ZD} (hz : Good z) {es rs : List Int} (he : Unit1 es) (hr : Unit1 rs) (i : Nat) : fz (z.c.getD i 0) - reachZ z i ≤ ptZ z es rs i ∧ ptZ z es rs i ≤ fz (z.c.getD i 0) + reachZ z i := by
  have h := pt_near hz he hr i
  unfold zabs at h
  omega
theorem down_num (X : Int) : fexp (roundS 2 (some X)).1 ≠ 2047 ∧ (roundS 2 (some X)).1 < B64 := by
  have h := (round_turned (some (-X))).2
  have h1 : fexp (roundS 2 (some (- -X))).1 ≠ 2047 ∧ (roundS 2 (some (- -X))).1 < B64 := ⟨h.num.2, h.lt.2⟩
  rw [Int.neg_neg] at h1
  exact h1
theorem up_num (X : Int) : fexp (roundS 1 (some X)).1 ≠ 2047 ∧ (roundS 1 (some X)).1 < B64 := by
  have h := (round_turned (some X)).2
  exact ⟨h.num.1, h.lt.1⟩
/-- A bound that is none keeps each point. -/
theorem bnd_in {z : ZD} (hz : Good z) {es rs : List Int} (he : Unit1 es) (hr : Unit1 rs) (i : Nat) (h : (bndD z i).bad = false) : (fexp (bndD z i).lo ≠ 2047 ∧ fz (bndD z i).lo ≤ ptZ z es rs i) ∧ (fexp (bndD z i).hi ≠ 2047 ∧ ptZ z es rs i ≤ fz (bndD z i).hi) := by
  obtain ⟨h1, h2⟩ := pt_in hz he hr i
  unfold bndD spanD at *
  split at h
  · next hc =>
    rw [if_pos hc]
    rw [Bool.and_eq_true] at hc
    have e1 := down_le (u := (roundS 2 (some (fz (z.c.getD i 0) - reachZ z i))).1) (by rw [← hc.1])
    have e2 := up_ge (u := (roundS 1 (some (fz (z.c.getD i 0) + reachZ z i))).1) (by rw [← hc.2])
    exact ⟨⟨(down_num _).1, Int.le_trans e1 h1⟩, ⟨(up_num _).1, Int.le_trans h2 e2⟩⟩
  · cases h
end Go.Proofs.YtpfbgenefjhcjaaGreatDoor
