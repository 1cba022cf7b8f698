/- The supports of the axes are the bounds: the plain law. -/
import Derived.Test.YtpfbgenefjhcjaaGreatDoorPZoSup
import Derived.Test.YtpfbgenefjhcjaaGreatDoorPZoOwns
import Derived.Test.YtpfbgenefjhcjaaGreatDoorPRounds
namespace Go.Proofs.YtpfbgenefjhcjaaGreatDoor
set_option linter.unusedVariables false
set_option linter.unusedSimpArgs false
open Go Go.RowKit
set_option maxRecDepth 100000
def ONEf : Nat := 4607182418800017408
def MINf : Nat := 13830554455654793216
theorem UNp : (0 : Int) < (UN : Int) := by have := Nat.two_pow_pos expU; unfold UN; omega
theorem sumTo_none (f : Nat → Int) : ∀ n, (∀ j, j < n → f j = 0) → sumTo f n = 0
 | 0, _ => rfl
 | n + 1, h => by
  show sumTo f n + f n = 0
  rw [sumTo_none f n (fun j hj => h j (by omega)), h n (by omega)]
  rfl
theorem sumTo_one (f : Nat → Int) (i : Nat) : ∀ n, i < n → (∀ j, j < n → j ≠ i → f j = 0) → sumTo f n = f i
 | 0, hi, _ => by omega
 | n + 1, hi, h => by
  show sumTo f n + f n = f i
  by_cases e : i = n
  ·subst e
   rw [sumTo_none f i (fun j hj => h j (by omega) (by omega)), Int.zero_add]
  ·rw [sumTo_one f i n (by omega) (fun j hj hne => h j (by omega) hne), h n (by omega) (fun e' => e e'.symm), Int.add_zero]
theorem unitL_at (n i u : Nat) (hi : i < n) : (unitL n i u).getD i 0 = u := by
 unfold unitL
 rw [List.getD_eq_getElem?_getD, List.getElem?_set, if_pos rfl, if_pos (by rw [List.length_replicate]; exact hi)]
 rfl
theorem unitL_off (n i j u : Nat) (hne : j ≠ i) : (unitL n i u).getD j 0 = 0 := by
 unfold unitL
 rw [List.getD_eq_getElem?_getD, List.getElem?_set, if_neg (fun e => hne e.symm)]
 rcases Nat.lt_or_ge j n with h | h
 ·rw [List.getElem?_eq_getElem (by rw [List.length_replicate]; exact h), List.getElem_replicate]; rfl
 ·rw [List.getElem?_eq_none (by rw [List.length_replicate]; exact h)]; rfl
theorem unitL_length (n i u : Nat) : (unitL n i u).length = n := by unfold unitL; rw [List.length_set, List.length_replicate]
theorem unitL_mem {n i u v : Nat} (h : v ∈ unitL n i u) : v = 0 ∨ v = u := by
 unfold unitL at h
 rcases List.mem_or_eq_of_mem_set h with h | h
 ·exact Or.inl (List.eq_of_mem_replicate h)
 ·exact Or.inr h
theorem prodZ_zero (v : Nat) : prodZ 0 v 0 = 0 := by
 have h := prodZ_fz 0 v
 rw [fz_zero, Int.zero_mul] at h
 rcases Int.mul_eq_zero.1 h with h | h
 ·exact h
 ·have := UNp
  omega
theorem prodZ_unit {u : Nat} {s : Int} (hu : fz u = s * (UN : Nat)) (v : Nat) : prodZ u v 0 = s * fz v := by
 have h := prodZ_fz u v
 rw [hu, Int.mul_assoc, Int.mul_comm (UN : Int), ← Int.mul_assoc] at h
 exact Int.eq_of_mul_eq_mul_right (Int.ne_of_gt UNp) h
theorem dotZ_unit (l : List Nat) (n i u : Nat) (hi : i < n) : dotZ (unitL n i u) l n = prodZ u (l.getD i 0) 0 := by
 unfold dotZ
 rw [sumTo_one _ i n hi (fun j _ hne => by rw [unitL_off n i j u hne, prodZ_zero]), unitL_at n i u hi]
theorem fz_ONEf : fz ONEf = 1 * ((UN : Nat) : Int) := by decide +kernel
theorem fz_MINf : fz MINf = (-1) * ((UN : Nat) : Int) := by decide +kernel
theorem absF_ONEf : absF ONEf = ONEf := by decide +kernel
theorem absF_MINf : absF MINf = ONEf := by decide +kernel
theorem absF_0 : absF 0 = 0 := by decide +kernel
theorem zabs_neg (x : Int) : zabs (-1 * x) = zabs x := by unfold zabs; congr 1; omega
theorem sup_axis {z : ZD} (hz : Good z) (i N u : Nat) (s : Int) (hN : z.n = (N : Int)) (hi : i < N) (hu : fz u = s * (UN : Nat)) (hs : s = 1 ∨ s = -1) (hab : absF u = ONEf) : supZ z (unitL N i u) = s * fz (z.c.getD i 0) + reachZ z i := by
 unfold supZ reachZ
 rw [hN, Int.toNat_natCast, dotZ_unit _ _ _ _ hi, prodZ_unit hu]
 have h2 : sumTo (fun k => zabs (dotZ (unitL N i u) (colZ z k) N)) z.g.length = sumTo (fun k => zabs (fz ((colZ z k).getD i 0))) z.g.length := sumTo_congr _ _ _ fun k _ => by
  rw [dotZ_unit _ _ _ _ hi, prodZ_unit hu]
  rcases hs with rfl | rfl
  ·rw [Int.one_mul]
  ·exact zabs_neg _
 have h3 : sumTo (fun j => prodZ (absF ((unitL N i u).getD j 0)) (z.r.getD j 0) 0) N = fz (z.r.getD i 0) := by
  rw [sumTo_one _ i N hi (fun j _ hne => by rw [unitL_off N i j u hne, absF_0, prodZ_zero]), unitL_at N i u hi, hab, prodZ_unit fz_ONEf, Int.one_mul]
 rw [h2, h3]
 omega
theorem rowD_unit (N i u : Nat) (hu : fexp u ≠ 2047) : rowD (unitL N i u) (N : Int) = true := by
 rw [rowD_iff]
 refine ⟨fun v hv => ?_, by rw [unitL_length]⟩
 rcases unitL_mem hv with rfl | rfl
 ·decide
 ·exact hu
theorem small_unit (N i u : Nat) (hu : u < B64) : Small (unitL N i u) := fun v hv => by
 rcases unitL_mem hv with rfl | rfl
 ·decide
 ·exact hu
theorem supD_axis {z : ZD} (hz : Good z) (i N u : Nat) (s : Int) (hN : z.n = (N : Int)) (hi : i < N) (hu : fz u = s * (UN : Nat)) (hs : s = 1 ∨ s = -1) (hab : absF u = ONEf) (he : fexp u ≠ 2047) : supD z (unitL N i u) = roundS 1 (some (s * fz (z.c.getD i 0) + reachZ z i)) := by
 unfold supD
 rw [(goodD_iff z).2 hz, hN, rowD_unit N i u he, ← sup_axis hz i N u s hN hi hu hs hab]
 rfl
theorem Turned.num {a b : Nat} (h : Turned a b) : fexp a ≠ 2047 ∧ fexp b ≠ 2047 := by
 rcases h with ⟨rfl, rfl⟩ | ⟨m, h0, h1, ⟨rfl, rfl⟩ | ⟨rfl, rfl⟩⟩
 ·exact ⟨by decide, by decide⟩
 ·exact ⟨by unfold fexp; omega, by unfold fexp; omega⟩
 ·exact ⟨by unfold fexp; omega, by unfold fexp; omega⟩
theorem Turned.symm {a b : Nat} (h : Turned a b) : Turned b a := by
 rcases h with ⟨rfl, rfl⟩ | ⟨m, h0, h1, h | h⟩
 ·exact Or.inl ⟨rfl, rfl⟩
 ·exact Or.inr ⟨m, h0, h1, Or.inr ⟨h.2, h.1⟩⟩
 ·exact Or.inr ⟨m, h0, h1, Or.inl ⟨h.2, h.1⟩⟩
/-- What a coordinate's span is, of the supports of its axis. -/
def AxisIs (b : SD) (p q : Nat × Bool) : Prop := (b.bad = true ∧ (p.2 && q.2) = false) ∨ (b.bad = false ∧ p.2 = true ∧ q.2 = true ∧ FloatKind.f64.format.order b.hi p.1 = some .eq ∧ FloatKind.f64.format.order b.lo (Op.negFloat .f64 q.1) = some .eq)
theorem axis_bnd {z : ZD} (hz : Good z) (i N : Nat) (hN : z.n = (N : Int)) (hi : i < N) : AxisIs (bndD z i) (supD z (unitL N i ONEf)) (supD z (unitL N i MINf)) := by
 rw [supD_axis hz i N ONEf 1 hN hi fz_ONEf (Or.inl rfl) absF_ONEf (by decide +kernel), supD_axis hz i N MINf (-1) hN hi fz_MINf (Or.inr rfl) absF_MINf (by decide +kernel), Int.one_mul]
 unfold bndD
 generalize fz (z.c.getD i 0) = c
 generalize reachZ z i = s
 obtain ⟨h1, h2⟩ := round_turned (some (-1 * c + s))
 have e : (some (-1 * c + s)).map (fun x => -x) = some (c - s) := by show some (-(-1 * c + s)) = _; congr 1; omega
 rw [e] at h1 h2
 obtain ⟨h3, _, _⟩ := turned_eq _ _ h2.symm
 have h4 := (round_turned (some (c + s))).2.num.1
 unfold AxisIs spanD
 generalize roundS 2 (some (c - s)) = L at *
 generalize roundS 1 (some (c + s)) = U at *
 generalize roundS 1 (some (-1 * c + s)) = V at *
 rw [h1]
 cases hL : L.2 with
 | false => left; simp
 | true =>
  cases hU : U.2 with
  | false => left; simp
  | true =>
   have h5 : FloatKind.f64.format.order L.1 (nf V.1) = some .eq := by simpa using h3
   right
   exact ⟨rfl, rfl, rfl, order_same _ h4, h5⟩
end Go.Proofs.YtpfbgenefjhcjaaGreatDoor
