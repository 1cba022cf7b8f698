/- Plus as data; what zono.Plus has laid, under way. -/
import Derived.Test.YtpfbgenefjhcjaaGreatDoorZoOffs
import Derived.Test.YtpfbgenefjhcjaaGreatDoorZoUnion
import Derived.Test.YtpfbgenefjhcjaaGreatDoorZoById
namespace Go.Proofs.YtpfbgenefjhcjaaGreatDoor
set_option linter.unusedVariables false
set_option linter.unusedSimpArgs false
open Go Go.RowKit
set_option maxRecDepth 100000
/-! ### As data -/
theorem union_len : ∀ (a b : List Int), (unionD a b).length ≤ a.length + b.length := by
 intro a b
 fun_induction unionD a b with
 | case1 b => simp
 | case2 x a ih => simp only [List.length_cons, List.length_nil] at *; omega
 | case3 x a y b h ih => simp only [List.length_cons] at *; omega
 | case4 x a y b h h' ih => simp only [List.length_cons] at *; omega
 | case5 x a y b h h' ih => simp only [List.length_cons] at *; omega
/-- Where an Id stands. -/
def idxOf (ids : List Int) (i : Int) : Option Nat := (List.range ids.length).find? fun k => ids.getD k 0 == i
/-- The column of an Id; noughts, if it has none. -/
def colI (z : ZD) (n : Nat) (i : Int) : List Nat := match idxOf z.ids i with
 | some k => colZ z k
 | none => List.replicate n 0
theorem idx_some {ids : List Int} {i : Int} {k : Nat} (h : idxOf ids i = some k) : k < ids.length ∧ ids[k]? = some i := by
 unfold idxOf at h
 have h1 := List.mem_range.1 (List.mem_of_find?_eq_some h)
 have h2 := List.find?_some h
 refine ⟨h1, ?_⟩
 rw [List.getElem?_eq_getElem h1]
 rw [List.getD_eq_getElem?_getD, List.getElem?_eq_getElem h1, Option.getD_some] at h2
 rw [beq_iff_eq.1 h2]
theorem idx_none {ids : List Int} {i : Int} (h : idxOf ids i = none) : ∀ x ∈ ids, x ≠ i := fun x hx e => by
 unfold idxOf at h
 rw [List.find?_eq_none] at h
 obtain ⟨k, hk, rfl⟩ := List.mem_iff_getElem.1 hx
 have h1 := h k (List.mem_range.2 hk)
 rw [List.getD_eq_getElem?_getD, List.getElem?_eq_getElem hk, Option.getD_some] at h1
 exact h1 (by rw [e]; exact beq_self_eq_true _)
/-- The columns of the first j Ids, added. -/
def gT (a b : ZD) (n : Nat) (U : List Int) : Nat → Option (List Int × List (List Nat))
 | 0 => some ([], [])
 | j + 1 => match gT a b n U j with
  | none => none
  | some (is, gs) => match addT (colI a n (U.getD j 0)) (colI b n (U.getD j 0)) n with
   | none => none
   | some l => if anyF l = true then some (is ++ [U.getD j 0], gs ++ [l]) else some (is, gs)
theorem gT_step {a b : ZD} {n : Nat} {U : List Int} {j : Nat} {is : List Int} {gs : List (List Nat)} (h : gT a b n U j = some (is, gs)) : gT a b n U (j + 1) = match addT (colI a n (U.getD j 0)) (colI b n (U.getD j 0)) n with
   | none => none
   | some l => if anyF l = true then some (is ++ [U.getD j 0], gs ++ [l]) else some (is, gs) := by
 show (match gT a b n U j with | none => none | some (is, gs) => _) = _
 rw [h]
theorem gT_none {a b : ZD} {n : Nat} {U : List Int} {k : Nat} (h : gT a b n U k = none) : ∀ m, k ≤ m → gT a b n U m = none := by
 intro m
 induction m with
 | zero =>
  intro hm; obtain rfl : k = 0 := by omega
  exact h
 | succ m ih =>
  intro hm
  rcases Nat.lt_or_ge k (m + 1) with h1 | h1
  ·show (match gT a b n U m with | none => none | some (is, gs) => _) = _
   rw [ih (by omega)]
  ·obtain rfl : k = m + 1 := by omega
   exact h
theorem gT_over {a b : ZD} {n : Nat} {U : List Int} {j : Nat} {is : List Int} {gs : List (List Nat)} (h : gT a b n U j = some (is, gs)) (ha : addT (colI a n (U.getD j 0)) (colI b n (U.getD j 0)) n = none) : gT a b n U (j + 1) = none := by
 rw [gT_step h, ha]
theorem gT_skip {a b : ZD} {n : Nat} {U : List Int} {j : Nat} {is : List Int} {gs : List (List Nat)} {l : List Nat} (h : gT a b n U j = some (is, gs)) (ha : addT (colI a n (U.getD j 0)) (colI b n (U.getD j 0)) n = some l) (hs : anyF l = false) : gT a b n U (j + 1) = some (is, gs) := by
 rw [gT_step h, ha]
 exact if_neg (by rw [hs]; decide)
theorem gT_more {a b : ZD} {n : Nat} {U : List Int} {j : Nat} {is : List Int} {gs : List (List Nat)} {l : List Nat} (h : gT a b n U j = some (is, gs)) (ha : addT (colI a n (U.getD j 0)) (colI b n (U.getD j 0)) n = some l) (hs : anyF l = true) : gT a b n U (j + 1) = some (is ++ [U.getD j 0], gs ++ [l]) := by
 rw [gT_step h, ha]
 exact if_pos hs
theorem gT_len {a b : ZD} {n : Nat} {U : List Int} : ∀ {j : Nat} {is : List Int} {gs : List (List Nat)}, gT a b n U j = some (is, gs) → is.length ≤ j ∧ gs.length = is.length := by
 intro j
 induction j with
 | zero => intro is gs h; cases h; exact ⟨Nat.le_refl _, rfl⟩
 | succ j ih =>
  intro is gs h
  cases hb : gT a b n U j with
  | none => rw [gT_none hb _ (Nat.le_succ _)] at h; cases h
  | some p =>
   obtain ⟨is', gs'⟩ := p
   have h1 := ih hb
   cases ha : addT (colI a n (U.getD j 0)) (colI b n (U.getD j 0)) n with
   | none => rw [gT_over hb ha] at h; cases h
   | some l =>
    cases hs : anyF l with
    | false => rw [gT_skip hb ha hs] at h; cases h; omega
    | true =>
     rw [gT_more hb ha hs] at h
     cases h
     simp only [List.length_append, List.length_singleton]
     omega
/-- What r and the losses come to, behind j of the Ids. -/
def offF (a b : ZD) (n : Nat) (U : List Int) (j i : Nat) : Int := fz (a.r.getD i 0) + fz (b.r.getD i 0) + lossZ (a.c.getD i 0) (b.c.getD i 0) + sumTo (fun k => lossZ ((colI a n (U.getD k 0)).getD i 0) ((colI b n (U.getD k 0)).getD i 0)) j
theorem offF_succ (a b : ZD) (n : Nat) (U : List Int) (j i : Nat) : offF a b n U (j + 1) i = offF a b n U j i + lossZ ((colI a n (U.getD j 0)).getD i 0) ((colI b n (U.getD j 0)).getD i 0) := by
 unfold offF
 exact (Int.add_assoc _ _ _).symm
theorem colI_num {z : ZD} (hz : Good z) (n : Nat) (i : Int) : ∀ u ∈ colI z n i, fexp u ≠ 2047 := by
 unfold colI
 split
 ·exact hz.colNum _
 ·intro u hu
  rw [List.eq_of_mem_replicate hu]
  decide
theorem offF_bound {a b : ZD} (ha : Good a) (hb : Good b) (n : Nat) (U : List Int) (j i : Nat) : (offF a b n U j i).natAbs ≤ (5 + 3 * j) * FB := by
 have h1 := fz_lt _ (getD_num a.r ha.numR i)
 have h2 := fz_lt _ (getD_num b.r hb.numR i)
 have h3 := loss_bound (getD_num a.c ha.numC i) (getD_num b.c hb.numC i)
 have h4 := sumTo_bound (fun k => lossZ ((colI a n (U.getD k 0)).getD i 0) ((colI b n (U.getD k 0)).getD i 0)) (3 * FB) j fun k _ => loss_bound (getD_num _ (colI_num ha n _) i) (getD_num _ (colI_num hb n _) i)
 have h5 : (5 + 3 * j) * FB = 5 * FB + j * (3 * FB) := by rw [Nat.add_mul, Nat.mul_comm 3 j, Nat.mul_assoc]
 unfold offF
 omega
theorem offF_lim {a b : ZD} (ha : Good a) (hb : Good b) (n : Nat) (U : List Int) (j i : Nat) (hj : j ≤ 2147483650) : (offF a b n U j i).natAbs + 3 * FB < LIM := by
 have h1 := offF_bound ha hb n U j i
 refine few_ltF _ (8 + 3 * j) (by omega) ?_
 have h5 : (8 + 3 * j) * FB = (5 + 3 * j) * FB + 3 * FB := by rw [← Nat.add_mul]; congr 1; omega
 omega
/-- Each rounded up. -/
def rT (f : Nat → Int) : Nat → Option (List Nat)
 | 0 => some []
 | k + 1 => match rT f k with
  | none => none
  | some l => if (roundS 1 (some (f k))).2 = true then some (l ++ [(roundS 1 (some (f k))).1]) else none
theorem rT_none {f : Nat → Int} {k : Nat} (h : rT f k = none) : ∀ m, k ≤ m → rT f m = none := by
 intro m
 induction m with
 | zero =>
  intro hm; obtain rfl : k = 0 := by omega
  exact h
 | succ m ih =>
  intro hm
  rcases Nat.lt_or_ge k (m + 1) with h1 | h1
  ·show (match rT f m with | none => none | some l => _) = _
   rw [ih (by omega)]
  ·obtain rfl : k = m + 1 := by omega
   exact h
theorem rT_more {f : Nat → Int} {k : Nat} {l : List Nat} (h : rT f k = some l) (hr : (roundS 1 (some (f k))).2 = true) : rT f (k + 1) = some (l ++ [(roundS 1 (some (f k))).1]) := by
 show (match rT f k with | none => none | some l => _) = _
 rw [h]
 exact if_pos hr
theorem rT_over {f : Nat → Int} {k : Nat} {l : List Nat} (h : rT f k = some l) (hr : (roundS 1 (some (f k))).2 = false) : rT f (k + 1) = none := by
 show (match rT f k with | none => none | some l => _) = _
 rw [h]
 exact if_neg (by rw [hr]; decide)
theorem rT_len {f : Nat → Int} : ∀ {k : Nat} {l : List Nat}, rT f k = some l → l.length = k := by
 intro k
 induction k with
 | zero => intro l h; cases h; rfl
 | succ k ih =>
  intro l h
  cases hb : rT f k with
  | none => rw [rT_none hb _ (Nat.le_succ _)] at h; cases h
  | some l' =>
   cases ho : (roundS 1 (some (f k))).2 with
   | false => rw [rT_over hb ho] at h; cases h
   | true =>
    rw [rT_more hb ho] at h
    cases h
    rw [List.length_append, ih hb]
    rfl
def sameSize (a b : ZD) : Int := if sizeD a = sizeD b then sizeD a else 0
/-- Plus as data. -/
def plusZ (a b : ZD) (n : Nat) (U : List Int) : Option ZD := match addT a.c b.c n with
 | none => none
 | some c => match gT a b n U U.length with
  | none => none
  | some (is, gs) => match rT (offF a b n U U.length) n with
   | none => none
   | some r => some ⟨(n : Int), c, is, gs, r, false⟩
def plusD (a b : ZD) : ZD := if goodD a = true ∧ goodD b = true ∧ a.n = b.n then (plusZ a b a.n.toNat (unionD a.ids b.ids)).getD (lostZ (sameSize a b)) else lostZ (sameSize a b)
theorem plusZ_c {a b : ZD} {n : Nat} {U : List Int} (h : addT a.c b.c n = none) : plusZ a b n U = none := by unfold plusZ; rw [h]
theorem plusZ_g {a b : ZD} {n : Nat} {U : List Int} {c : List Nat} (h : addT a.c b.c n = some c) (hg : gT a b n U U.length = none) : plusZ a b n U = none := by unfold plusZ; rw [h]; dsimp only; rw [hg]
theorem plusZ_r {a b : ZD} {n : Nat} {U : List Int} {c : List Nat} {is : List Int} {gs : List (List Nat)} (h : addT a.c b.c n = some c) (hg : gT a b n U U.length = some (is, gs)) (hr : rT (offF a b n U U.length) n = none) : plusZ a b n U = none := by unfold plusZ; rw [h]; dsimp only; rw [hg]; dsimp only; rw [hr]
theorem plusZ_yes {a b : ZD} {n : Nat} {U : List Int} {c r : List Nat} {is : List Int} {gs : List (List Nat)} (h : addT a.c b.c n = some c) (hg : gT a b n U U.length = some (is, gs)) (hr : rT (offF a b n U U.length) n = some r) : plusZ a b n U = some ⟨(n : Int), c, is, gs, r, false⟩ := by unfold plusZ; rw [h]; dsimp only; rw [hg]; dsimp only; rw [hr]
/-! ### Frames -/
theorem OwnG.heap {α : Type} {c : α → List Value} {e : TypeId} {m base : Nat} {w w1 : World} {v : Value} {xs : List α} (h : OwnG c e m w base v xs) (hb : ∀ k, v.ownBlock = some k → w1.heap[k]? = w.heap[k]?) : OwnG c e m w1 base v xs := by
 obtain ⟨h1, h2⟩ := h
 refine ⟨h1, ?_⟩
 rcases h2 with h0 | ⟨g, cap, cur, rfl, hb', hg, h3⟩
 ·exact Or.inl h0
 ·exact Or.inr ⟨g, cap, cur, rfl, hb', (hb g rfl).trans hg, h3⟩
theorem FOs.heap {base : Nat} {w w1 : World} {vs : List Value} {uss : List (List Nat)} (h : FOs base w vs uss) (hb : ∀ v ∈ vs, ∀ k, v.ownBlock = some k → w1.heap[k]? = w.heap[k]?) : FOs base w1 vs uss :=
 ⟨h.len, fun j us hu => by obtain ⟨v, h1, h2⟩ := h.own j us hu; exact ⟨v, h1, h2.heap (hb v (List.mem_of_getElem? h1))⟩, h.apart⟩
theorem FOs.lt {base : Nat} {w : World} {vs : List Value} {uss : List (List Nat)} (h : FOs base w vs uss) : ∀ v ∈ vs, ∀ k, v.ownBlock = some k → base ≤ k ∧ k < w.heap.size ∧ Typed w k 43 := fun v hv k hk => by
 obtain ⟨j, hj, rfl⟩ := List.mem_iff_getElem.1 hv
 obtain ⟨us, hu⟩ := get_some uss j (by rw [← h.len]; exact hj)
 obtain ⟨v', h1, h2⟩ := h.own j us hu
 rw [List.getElem?_eq_getElem hj] at h1
 cases h1
 exact ⟨(h2.lt k hk).1, (h2.lt k hk).2, h2.typed k hk⟩
/-- One more, behind all of them. -/
theorem FOs.add {base B : Nat} {w w1 : World} {vs : List Value} {uss : List (List Nat)} {v : Value} {us : List Nat} (h : FOs base w vs uss) (hb : ∀ v ∈ vs, ∀ k, v.ownBlock = some k → w1.heap[k]? = w.heap[k]?) (hv : FO B w1 v us) (hB : w.heap.size ≤ B) (hbase : base ≤ w.heap.size) : FOs base w1 (vs ++ [v]) (uss ++ [us]) := by
 have hb' := h.heap hb
 refine ⟨by simp [h.len], fun j xs hx => ?_, fun i j v1 v2 g hij h1 h2 hg => ?_⟩
 ·by_cases hj : j < uss.length
  ·rw [List.getElem?_append_left hj] at hx
   obtain ⟨v', h1, h2⟩ := hb'.own j xs hx
   exact ⟨v', by rw [List.getElem?_append_left (by rw [h.len]; exact hj)]; exact h1, h2⟩
  ·have hl := (List.getElem?_eq_some_iff.1 hx).1
   rw [List.length_append, List.length_singleton] at hl
   obtain rfl : j = uss.length := by omega
   rw [List.getElem?_append_right (Nat.le_refl _), Nat.sub_self] at hx
   cases hx
   exact ⟨v, by rw [List.getElem?_append_right (by rw [h.len]; exact Nat.le_refl _), h.len, Nat.sub_self]; rfl, hv.lowB (by omega)⟩
 ·have hl := (List.getElem?_eq_some_iff.1 h2).1
  rw [List.length_append, List.length_singleton] at hl
  by_cases hj : j < vs.length
  ·rw [List.getElem?_append_left (by omega)] at h1
   rw [List.getElem?_append_left hj] at h2
   exact h.apart i j v1 v2 g hij h1 h2 hg
  ·obtain rfl : j = vs.length := by omega
   rw [List.getElem?_append_left hij] at h1
   rw [List.getElem?_append_right (Nat.le_refl _), Nat.sub_self] at h2
   cases h2
   intro h3
   have k1 := (hv.lt g h3).1
   have k2 := (h.lt v1 (List.mem_of_getElem? h1) g hg).2.1
   omega
/-- One more, behind all of them, in the second place. -/
theorem FOs.second {base B : Nat} {w w1 : World} {v0 : Value} {vs : List Value} {u0 : List Nat} {uss : List (List Nat)} {v : Value} {us : List Nat} (h : FOs base w (v0 :: vs) (u0 :: uss)) (hb : ∀ v ∈ v0 :: vs, ∀ k, v.ownBlock = some k → w1.heap[k]? = w.heap[k]?) (hv : FO B w1 v us) (hB : w.heap.size ≤ B) (hbase : base ≤ w.heap.size) : FOs base w1 (v0 :: v :: vs) (u0 :: us :: uss) := by
 have hb' := h.heap hb
 have hlen := h.len
 simp only [List.length_cons] at hlen
 refine ⟨by simp only [List.length_cons]; omega, fun j xs hx => ?_, fun i j v1 v2 g hij h1 h2 hg => ?_⟩
 ·match j, hx with
  | 0, hx => exact hb'.own 0 xs hx
  | 1, hx => cases hx; exact ⟨v, rfl, hv.lowB (by omega)⟩
  | j + 2, hx => exact hb'.own (j + 1) xs hx
 ·match i, j, hij, h1, h2 with
  | 0, 1, _, h1, h2 =>
   cases h1
   cases h2
   intro h3
   have k1 := (hv.lt g h3).1
   have k2 := (h.lt _ List.mem_cons_self g hg).2.1
   omega
  | 0, j + 2, _, h1, h2 => exact h.apart 0 (j + 1) v1 v2 g (by omega) h1 h2 hg
  | 1, j + 2, _, h1, h2 =>
   cases h1
   intro h3
   have k1 := (hv.lt g hg).1
   have k2 := (h.lt v2 (List.mem_cons_of_mem _ (List.mem_of_getElem? (l := vs) h2)) g h3).2.1
   omega
  | i + 2, j + 2, hij, h1, h2 => exact h.apart (i + 1) (j + 1) v1 v2 g (by omega) h1 h2 hg
theorem ownsMap_heap {H : Type} {P : Program} {k : TypeId} {R : Value → Option (DataW H × List MemPlace)} {w w1 : World} {b n : Nat} {D : DataW H} (h : w.ownsMap P k R b n D) (hb : w1.heap[b]? = w.heap[b]?) : w1.ownsMap P k R b n D := by
 obtain ⟨es, clock, h1, h2⟩ := h
 exact ⟨es, clock, hb.trans h1, h2⟩
theorem AccIs.typed {w : World} {b : Nat} {s : Option Int} (h : AccIs w b s) : Typed w b 163 := by
 cases s with
 | none => exact ⟨_, h⟩
 | some z => exact ⟨_, h.1⟩
theorem Offs.typed {w : World} {g n : Nat} {bs : List Nat} {f : Nat → Int} (h : Offs w g n bs f) : ∀ b ∈ bs, Typed w b 163 := fun b hb => by
 obtain ⟨j, hj, rfl⟩ := List.mem_iff_getElem.1 hb
 exact (h.acc j _ (List.getElem?_eq_getElem hj)).typed
theorem Offs.heap {w w1 : World} {g n : Nat} {bs : List Nat} {f : Nat → Int} (h : Offs w g n bs f) (hg : w1.heap[g]? = w.heap[g]?) (hb : ∀ b ∈ bs, w1.heap[b]? = w.heap[b]?) : Offs w1 g n bs f :=
 ⟨h.ptr.heap hg, fun j b hj => (h.acc j b hj).heap (hb b (List.mem_of_getElem? hj)), h.up, h.ge⟩
/-- What Plus has laid, under way (W0: the world at the loop's beginning; gb: the zonotope). -/
structure PSt (b1 : Nat) (W0 : World) (bs : List Nat) (gb : Nat) (n : Int) (vc : Value) (cs : List Nat) (W : World) (vi vg : Value) (vals : List Value) (ids : List Int) (g : List (List Nat)) : Prop where
 kept : Kept (gb :: bs) W0 W
 out : ZB W gb (.int .i64 n) vc vi vg (.slice none 0 0) (.bool false)
 fl : FOs b1 W (vc :: vals) (cs :: g)
 ids : OwnG (fun x => [cI x]) 3 1 W W0.heap.size vi ids
 g : OwnG (fun x => [cV x]) 22 1 W W0.heap.size vg vals
section
variable {b1 : Nat} {W0 : World} {bs : List Nat} {gb : Nat} {n : Int} {vc : Value} {cs : List Nat} {W W1 W2 : World} {vi vg vi' vg' v : Value} {vals : List Value} {ids ids' : List Int} {g : List (List Nat)} {us : List Nat}
theorem PSt.b (h : PSt b1 W0 bs gb n vc cs W vi vg vals ids g) (hb : Below W.heap.size W W1) : PSt b1 W0 bs gb n vc cs W1 vi vg vals ids g :=
 ⟨h.kept.trans (Kept.of_below _ hb), h.out.below hb, h.fl.below hb, h.ids.below hb, h.g.below hb⟩
theorem PSt.size (h : PSt b1 W0 bs gb n vc cs W vi vg vals ids g) : W0.heap.size ≤ W.heap.size := h.kept.size
/-- The accs are turned. -/
theorem PSt.accs (h : PSt b1 W0 bs gb n vc cs W vi vg vals ids g) (hK : Kept bs W W1) (hT : ∀ b ∈ bs, Typed W b 163) : PSt b1 W0 bs gb n vc cs W1 vi vg vals ids g := by
 have key : ∀ (k : Nat) (t : TypeId), Typed W k t → t ≠ 163 → W1.heap[k]? = W.heap[k]? := fun k t ht hne => hK.block k ht.lt fun hm => by
  obtain ⟨c1, e1⟩ := ht
  obtain ⟨c2, e2⟩ := hT k hm
  rw [e1] at e2
  cases e2
  exact hne rfl
 refine ⟨h.kept.trans ⟨hK.os, hK.tape, hK.output, hK.size, fun k hk hn => hK.block k hk fun hm => hn (List.mem_cons_of_mem _ hm)⟩, (key gb 26 h.out.typed (by decide)).trans h.out, h.fl.heap fun v hv k hk => key k 43 (h.fl.lt v hv k hk).2.2 (by decide), h.ids.heap fun k hk => key k 3 (h.ids.typed k hk) (by decide), h.g.heap fun k hk => key k 22 (h.g.typed k hk) (by decide)⟩
theorem PSt.putIds (h : PSt b1 W0 bs gb n vc cs W vi vg vals ids g) (hgb : gb < W0.heap.size) (ho : OwnG (fun x => [cI x]) 3 1 W2 W0.heap.size vi' ids') (hg : W.grownBy W2 vi.ownBlock) :
  ZB W2 gb (.int .i64 n) vc vi vg (.slice none 0 0) (.bool false) ∧ PSt b1 W0 bs gb n vc cs (W2.setCell ⟨gb, 2, none⟩ vi') vi' vg vals ids' g ∧ W.grownBy W2 vi.ownBlock := by
 have ht := h.ids.typed
 have k2 : ZB W2 gb _ _ _ _ _ _ := block_far h.out hg ht (by decide)
 obtain ⟨q1, q2⟩ := k2.set2 vi'
 have hz : ∀ k, some gb = some k → Typed W2 k 26 := fun k e => by cases e; exact k2.typed
 exact ⟨k2, ⟨(h.kept.add (below_ownG h.ids hg h.size)).row q2 (Or.inr List.mem_cons_self), q1, (h.fl.far hg ht (by decide)).far q2 hz (by decide), ho.farR q2 hz (by decide), (h.g.farR hg ht (by decide)).farR q2 hz (by decide)⟩, hg⟩
theorem PSt.putCol (h : PSt b1 W0 bs gb n vc cs W vi vg vals ids g) (hf : FOs b1 W (vc :: (vals ++ [v])) (cs :: (g ++ [us]))) (ho : OwnG (fun x => [cV x]) 22 1 W2 W0.heap.size vg' (vals ++ [v])) (hg : W.grownBy W2 vg.ownBlock) :
  ZB W2 gb (.int .i64 n) vc vi vg (.slice none 0 0) (.bool false) ∧ PSt b1 W0 bs gb n vc cs (W2.setCell ⟨gb, 3, none⟩ vg') vi vg' (vals ++ [v]) ids (g ++ [us]) := by
 have ht := h.g.typed
 have k2 : ZB W2 gb _ _ _ _ _ _ := block_far h.out hg ht (by decide)
 obtain ⟨q1, q2⟩ := k2.set3 vg'
 have hz : ∀ k, some gb = some k → Typed W2 k 26 := fun k e => by cases e; exact k2.typed
 exact ⟨k2, ⟨(h.kept.add (below_ownG h.g hg h.size)).row q2 (Or.inr List.mem_cons_self), q1, (hf.far hg ht (by decide)).far q2 hz (by decide), (h.ids.farR hg ht (by decide)).farR q2 hz (by decide), ho.farR q2 hz (by decide)⟩⟩
theorem PSt.col (h : PSt b1 W0 bs gb n vc cs W vi vg vals ids g) : vals.length = g.length := by
 have := h.fl.len
 simp only [List.length_cons] at this
 omega
end
end Go.Proofs.YtpfbgenefjhcjaaGreatDoor
