/- What ZonoReaches needs of the plain laws of Box. -/
import Derived.Test.YtpfbgenefjhcjaaGreatDoorZoPoint
namespace Go.Proofs.YtpfbgenefjhcjaaGreatDoor
set_option linter.unusedVariables false
set_option linter.unusedSimpArgs false
open Go Go.RowKit
set_option maxRecDepth 100000
theorem Turned.num {a b : Nat} (h : Turned a b) : fexp a ≠ 2047 ∧ fexp b ≠ 2047 := by
  rcases h with ⟨rfl, rfl⟩ | ⟨m, h0, h1, ⟨rfl, rfl⟩ | ⟨rfl, rfl⟩⟩
  · exact ⟨by decide, by decide⟩
  · exact ⟨by unfold fexp; omega, by unfold fexp; omega⟩
  · exact ⟨by unfold fexp; omega, by unfold fexp; omega⟩
theorem Turned.lt {a b : Nat} (h : Turned a b) : a < B64 ∧ b < B64 := by
  unfold B64
  rcases h with ⟨rfl, rfl⟩ | ⟨m, h0, h1, h | h⟩ <;> omega
theorem fz_pos {u : Nat} (h : neg0 u = false) : 0 ≤ fz u := by
  unfold neg0 at h
  have := of_decide_eq_false h
  omega
theorem Good.posAt {z : ZD} (h : Good z) (j : Nat) : 0 ≤ fz (z.r.getD j 0) := by
  rw [List.getD_eq_getElem?_getD]
  cases hj : z.r[j]? with
  | none => show 0 ≤ fz 0; rw [fz_zero]; omega
  | some u => exact fz_pos (h.pos u (List.mem_of_getElem? hj))
theorem up_ge {x : Int} {u : Nat} (h : roundS 1 (some x) = (u, true)) : x ≤ fz u := by
  rcases bet_any x with ⟨_, h1, _⟩ | ⟨_, h1, h2, _⟩ | ⟨v, _, h1, _, h2, _⟩ | ⟨a, b, _, h1, _, _, h2, _⟩
  · rw [h1] at h; cases h
  · rw [h1] at h; cases h; exact h2
  · rw [h1] at h; cases h; omega
  · rw [h1] at h; cases h; omega
theorem down_le {x : Int} {u : Nat} (h : roundS 2 (some x) = (u, true)) : fz u ≤ x := by
  rcases bet_any x with ⟨h1, _, h2, _⟩ | ⟨h1, _⟩ | ⟨v, h1, _, _, h2, _⟩ | ⟨a, b, h1, _, _, h2, _⟩
  · rw [h1] at h; cases h; exact h2
  · rw [h1] at h; cases h
  · rw [h1] at h; cases h; omega
  · rw [h1] at h; cases h; omega
/-! ### Sums -/
theorem sumTo_le {f g : Nat → Int} : ∀ n, (∀ i, i < n → f i ≤ g i) → sumTo f n ≤ sumTo g n := by
  intro n
  induction n with
  | zero => intro _; exact Int.le_refl _
  | succ n ih =>
    intro h
    exact Int.add_le_add (ih fun i hi => h i (by omega)) (h n (by omega))
theorem sumTo_mul (f : Nat → Int) (c : Int) : ∀ n, sumTo (fun i => f i * c) n = sumTo f n * c := by
  intro n
  induction n with
  | zero => exact (Int.zero_mul c).symm
  | succ n ih =>
    show sumTo (fun i => f i * c) n + f n * c = (sumTo f n + f n) * c
    rw [ih, Int.add_mul]
theorem sumTo_zero (n : Nat) : sumTo (fun _ => 0) n = 0 := by
  induction n with
  | zero => rfl
  | succ n ih => show sumTo (fun _ => 0) n + 0 = 0; rw [ih]; rfl
theorem sumTo_swap (f : Nat → Nat → Int) (m : Nat) : ∀ n, sumTo (fun i => sumTo (fun k => f i k) m) n = sumTo (fun k => sumTo (fun i => f i k) n) m := by
  intro n
  induction n with
  | zero => exact (sumTo_zero m).symm
  | succ n ih =>
    show sumTo (fun i => sumTo (fun k => f i k) m) n + sumTo (fun k => f n k) m = sumTo (fun k => sumTo (fun i => f i k) n + f n k) m
    rw [ih, sumTo_add]
theorem zabs_le (x : Int) : x ≤ zabs x := by unfold zabs; omega
theorem zabs_mul (x y : Int) : zabs (x * y) = zabs x * zabs y := by unfold zabs; rw [Int.natAbs_mul, Int.natCast_mul]
theorem zabs_nn (x : Int) : 0 ≤ zabs x := by unfold zabs; omega
theorem zabs_sum (f : Nat → Int) : ∀ n, zabs (sumTo f n) ≤ sumTo (fun i => zabs (f i)) n := by
  intro n
  induction n with
  | zero => exact Int.le_refl _
  | succ n ih =>
    show zabs (sumTo f n + f n) ≤ sumTo (fun i => zabs (f i)) n + zabs (f n)
    unfold zabs at *
    omega
theorem dotZ_UN (d l : List Nat) (n : Nat) : dotZ d l n * (UN : Nat) = sumTo (fun i => fz (d.getD i 0) * fz (l.getD i 0)) n := by
  unfold dotZ
  rw [← sumTo_mul]
  exact sumTo_congr _ _ _ fun i _ => prodZ_fz _ _
theorem absF_at {d : List Nat} (sd : Small d) (i : Nat) : fz (absF (d.getD i 0)) = zabs (fz (d.getD i 0)) := by
  refine absF_fz _ ?_
  rw [List.getD_eq_getElem?_getD]
  cases hi : d[i]? with
  | none => decide
  | some u => exact sd.at i u hi
theorem zabs_UN (x : Int) : zabs x * (UN : Nat) = zabs (x * (UN : Nat)) := by
  rw [zabs_mul]
  congr 1
/-- The support, by whole numbers alone. -/
theorem supZ_UN (z : ZD) {d : List Nat} (sd : Small d) : supZ z d * (UN : Nat) = sumTo (fun i => fz (d.getD i 0) * fz (z.c.getD i 0)) z.n.toNat + sumTo (fun k => zabs (sumTo (fun i => fz (d.getD i 0) * fz ((colZ z k).getD i 0)) z.n.toNat)) z.g.length + sumTo (fun i => zabs (fz (d.getD i 0)) * fz (z.r.getD i 0)) z.n.toNat := by
  unfold supZ
  rw [Int.add_mul, Int.add_mul, dotZ_UN, ← sumTo_mul, ← sumTo_mul]
  congr 1
  · congr 1
    refine sumTo_congr _ _ _ fun k _ => ?_
    rw [zabs_UN, dotZ_UN]
  · refine sumTo_congr _ _ _ fun i _ => ?_
    rw [prodZ_fz, absF_at sd]
/-- Each point lies as near to the centre as the reach says. -/
theorem pt_near {z : ZD} (hz : Good z) {es rs : List Int} (he : Unit1 es) (hr : Unit1 rs) (i : Nat) : zabs (ptZ z es rs i - fz (z.c.getD i 0)) ≤ reachZ z i := by
  have h1 := mulZ_le (x := rs.getD i 0) (y := fz (z.r.getD i 0)) (hr i)
  have h2 := zabs_sum (fun k => mulZ (es.getD k 0) (fz ((colZ z k).getD i 0))) z.g.length
  have h3 : sumTo (fun k => zabs (mulZ (es.getD k 0) (fz ((colZ z k).getD i 0)))) z.g.length ≤ sumTo (fun k => zabs (fz ((colZ z k).getD i 0))) z.g.length := sumTo_le _ fun k _ => by
    have := mulZ_le (x := es.getD k 0) (y := fz ((colZ z k).getD i 0)) (he k)
    unfold zabs
    omega
  have h4 := hz.posAt i
  unfold ptZ ptT reachZ
  generalize sumTo (fun k => mulZ (es.getD k 0) (fz ((colZ z k).getD i 0))) z.g.length = X at *
  generalize sumTo (fun k => zabs (fz ((colZ z k).getD i 0))) z.g.length = Y at *
  generalize mulZ (rs.getD i 0) (fz (z.r.getD i 0)) = V at *
  generalize fz (z.r.getD i 0) = R at *
  unfold zabs at *
  omega
/-- The parts lie from -1 to 1. -/
theorem part_unit (l : List Int) (k : Nat) (nb : Int) : (partZ l k nb).natAbs ≤ UN := by
  unfold partZ
  split
  · unfold oneZ
    omega
  · next li _ =>
    have hq := bitsQ_lt nb
    generalize bitsQ nb = q at *
    obtain ⟨s, hs, hs1, hs2, i, hi, hil⟩ := idx_tmod li (2 * 2 ^ q + 1) (by omega)
    rw [show ((2 * 2 ^ q + 1 : Nat) : Int) = 2 * ((2 ^ q : Nat) : Int) + 1 by omega] at *
    rw [hs, hi, Int.natAbs_mul]
    have e : UN = 2 ^ q * 2 ^ (expU - q) := by
      unfold UN
      rw [← Nat.pow_add]
      congr 1
      unfold expU
      omega
    rw [e]
    refine Nat.mul_le_mul ?_ ?_
    · generalize 2 ^ q = P at *
      omega
    · rw [Int.natAbs_natCast]
      exact Nat.le_refl _
theorem parts_unit (l : List Int) (fr n : Nat) (nb : Int) : Unit1 (partsZ l fr n nb) := fun k => by
  unfold partsZ
  rw [List.getD_eq_getElem?_getD, List.getElem?_map]
  cases (List.range n)[k]? with
  | none => exact Nat.zero_le _
  | some j => exact part_unit _ _ _
end Go.Proofs.YtpfbgenefjhcjaaGreatDoor
