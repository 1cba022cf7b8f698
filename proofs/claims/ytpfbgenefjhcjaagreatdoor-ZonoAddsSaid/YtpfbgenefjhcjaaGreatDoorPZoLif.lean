/-
 zono.Lift: what it has laid, under way.
 zono.Lift.
-/
import Derived.Test.YtpfbgenefjhcjaaGreatDoorZoLateT
import Derived.Test.YtpfbgenefjhcjaaGreatDoorPZoOwns
import Derived.Test.YtpfbgenefjhcjaaGreatDoorPZoRea
import Derived.Test.YtpfbgenefjhcjaaGreatDoorPZoHel
import Derived.Maps.OwnIn
namespace Go.Proofs.YtpfbgenefjhcjaaGreatDoor
set_option linter.unusedVariables false
set_option linter.unusedSimpArgs false
open Go Go.RowKit
set_option maxRecDepth 100000
section
variable {α : Type} (c : α → List Value) (m bytes : Nat) (z : Value) (t e : TypeId)
/-- append onto a row of the call's own, inside a fence. -/
theorem wpListIn_append_g {F : Fence} {nF : Nat} {ops : Array Oper} {rest : List Oper} {o : Oper} {a : Act} {w : World} {Q : Exit → Act → World → Prop} (ht : Tryz.prog.underlying t = some (.slice e))
  (hinfo : (Tryz.prog.info? e).map (fun i => (i.zero, i.size, i.bytes)) = some (some z, m, bytes)) (hzs : z.cells.size = m) (hm : 0 < m) (hc : ∀ x, (c x).length = m)
  (hgd : o.guard = none) (s x : Operand) (ho : o.op = .call { callee := .builtin .append, args := #[s, x], argTypes := #[t, t] })
  (base : Nat) (v : Value) (us vs : List α) (hs : a.eval s = v) (hown : OwnG c e m w base v us)
  (ad : Addr) (k cp : Nat) (hx : a.eval x = .slice (some ad) k cp) (hl : vs.length = k) (hnews : ∀ j u, (vs.flatMap c)[j]? = some u → w.cell? (ad.add j) = some u)
  (h63 : us.length + k ≤ maxLen) (hbytes : (us.length + k) * bytes ≤ 140737488355328) (hbase : base ≤ w.heap.size) (h1 : ∀ x ∈ vs, ∀ u ∈ c x, u.oneCell' = true)
  (h : ∀ v' w', OwnG c e m w' base v' (us ++ vs) → w.grownBy w' v.ownBlock → (v'.ownBlock = v.ownBlock ∨ v'.ownBlock = some w.heap.size) → wpListIn F nF Tryz.prog ops Q rest (a.put o.dst v') w') :
  wpListIn F nF Tryz.prog ops Q (o :: rest) a w := by
 obtain ⟨i0, hi0, hz0, hz1, hz2⟩ := info_parts hinfo
 refine wpListIn_append_own_at w hgd s x t ho base e i0 z m bytes ht hi0 hz0 hz1 hz2 hzs hm v us.length (us.flatMap c) hs hown ad k cp (vs.flatMap c) hx (by rw [flat_length c m hc, hl]) hnews
  (fun u hu => by obtain ⟨y, hy0, hy⟩ := List.mem_flatMap.1 hu; exact h1 y hy0 u hy) h63 hbytes hbase fun v' w' h2 h3 h4 h5 => h v' w' ?_ h3 h5
 unfold OwnG
 rw [List.flatMap_append, List.length_append, hl]
 exact h2
end
theorem wpListIn_app1 {α : Type} (c : α → Value) (bytes : Nat) (z : Value) (t e : TypeId) {F : Fence} {nF : Nat} {ops : Array Oper} {rest : List Oper} {o : Oper} {a : Act} {w : World} {Q : Exit → Act → World → Prop} (ht : Tryz.prog.underlying t = some (.slice e))
  (hinfo : (Tryz.prog.info? e).map (fun i => (i.zero, i.size, i.bytes)) = some (some z, 1, bytes)) (hzs : z.cells.size = 1)
  (hgd : o.guard = none) (s x : Operand) (ho : o.op = .call { callee := .builtin .append, args := #[s, x], argTypes := #[t, t] })
  (base : Nat) (v : Value) (us : List α) (y : α) (cy : Value) (g : Nat) (hs : a.eval s = v) (hx : a.eval x = .slice (some ⟨g, 0, none⟩) 1 1) (hown : OwnG (fun x => [c x]) e 1 w base v us)
  (hy : c y = cy) (h1 : cy.oneCell' = true) (hc : w.cell? ⟨g, 0, none⟩ = some cy) (hbytes : (us.length + 1) * bytes ≤ 140737488355328) (hl : us.length ≤ 140737488355328) (hbase : base ≤ w.heap.size)
  (h : ∀ v' w', OwnG (fun x => [c x]) e 1 w' base v' (us ++ [y]) → w.grownBy w' v.ownBlock → (v'.ownBlock = v.ownBlock ∨ v'.ownBlock = some w.heap.size) → wpListIn F nF Tryz.prog ops Q rest (a.put o.dst v') w') :
  wpListIn F nF Tryz.prog ops Q (o :: rest) a w :=
 wpListIn_append_g (fun x => [c x]) 1 bytes z t e ht hinfo hzs (by decide) (fun _ => rfl) hgd s x ho base v us [y] hs hown ⟨g, 0, none⟩ 1 1 hx rfl (news_one hc hy) (by unfold maxLen; omega) hbytes hbase (fun x hx u hu => by simp at hx hu; subst hx; subst hu; rw [hy]; exact h1) h
theorem ZB.lt {w : World} {b : Nat} {v0 v1 v2 v3 v4 v5 : Value} (h : ZB w b v0 v1 v2 v3 v4 v5) : b < w.heap.size := (Array.getElem?_eq_some_iff.1 h).1
/-! ### What a block that is no row of cells leaves -/
def Apart (W : World) (row : Option Nat) : Prop := ∀ r, row = some r → ∃ o : Obj, W.heap[r]? = some o ∧ o.isCells = false
theorem ownG_own {α : Type} {c : α → List Value} {e : TypeId} {m base : Nat} {W W' : World} {v : Value} {xs : List α} {row : Option Nat} (h : OwnG c e m W base v xs) (hg : W.grownBy W' row) (hr : Apart W row) : OwnG c e m W' base v xs := by
 refine h.kept hg ?_
 cases hv : v.ownBlock with
 | none => exact Or.inl rfl
 | some k =>
  refine Or.inr fun e => ?_
  obtain ⟨o, ho, hc⟩ := hr k e.symm
  obtain ⟨cs, h1⟩ := h.typed k hv
  rw [h1] at ho
  cases ho
  cases hc
theorem FOs.own' {base : Nat} {W W' : World} {vs : List Value} {uss : List (List Nat)} {row : Option Nat} (h : FOs base W vs uss) (hg : W.grownBy W' row) (hr : Apart W row) : FOs base W' vs uss :=
 ⟨h.len, fun j us hu => by obtain ⟨v, h1, h2⟩ := h.own j us hu; exact ⟨v, h1, ownG_own h2 hg hr⟩, h.apart⟩
/-- What a step that writes block gb and lists of the call's own leaves. -/
structure Wrote (b gb : Nat) (W W' : World) : Prop where
 below : Below b W W'
 others : KeepsOthers W W'
 zono : ∀ (k : Nat) (cs : Array Value), W.heap[k]? = some (.cells cs 26 (0, 0)) → k ≠ gb → W'.heap[k]? = some (.cells cs 26 (0, 0))
theorem Wrote.trans {b gb : Nat} {W1 W2 W3 : World} (h : Wrote b gb W1 W2) (k : Wrote b gb W2 W3) : Wrote b gb W1 W3 :=
 ⟨h.below.trans k.below, h.others.trans k.others, fun i cs hi hne => k.zono i cs (h.zono i cs hi hne) hne⟩
theorem Wrote.of {b gb : Nat} {W W' : World} (h : Below W.heap.size W W') (hb : b ≤ W.heap.size) : Wrote b gb W W' :=
 ⟨h.mono hb, KeepsOthers.of_grownBy (grown_of_below (row := none) h) (fun j o e ho => by cases e), fun i cs hi _ => (h.block i (Array.getElem?_eq_some_iff.1 hi).1).trans hi⟩
theorem Wrote.grow {b gb : Nat} {W W' : World} {row : Option Nat} {t0 : TypeId} (hg : W.grownBy W' row) (hr : ∀ g, row = some g → Typed W g t0) (hne : 26 ≠ t0) (hb : Below b W W') : Wrote b gb W W' :=
 ⟨hb, KeepsOthers.of_grownBy hg (fun j o e ho => by
  obtain ⟨cs, hc⟩ := hr j e
  rw [hc] at ho
  cases ho
  rfl), fun i cs hi _ => block_far hi hg hr hne⟩
theorem Wrote.set {b gb : Nat} {W : World} {v0 v1 v2 v3 v4 v5 : Value} (hz : ZB W gb v0 v1 v2 v3 v4 v5) (hb : b ≤ gb) (i : Nat) (v : Value) : Wrote b gb W (W.setCell ⟨gb, i, none⟩ v) :=
 ⟨(Below.refl _ _).setCell (p := ⟨gb, i, none⟩) hb v, KeepsOthers.setCell _ _ _, fun k cs hk hne => ((grown_set (grown_refl W gb) i v).block k (Array.getElem?_eq_some_iff.1 hk).1 (fun e => hne (Option.some.inj e))).trans hk⟩
/-- What Lift has laid, under way: the box that came in, the result's, the new one's; its lists. -/
structure LSt (b0 gb : Nat) (bx : Array Value) (z : ZD) (vc vr : Value) (W : World) (vi vg : Value) (vals : List Value) (ids : List Int) (g : List (List Nat)) : Prop where
 box : W.heap[b0]? = some (.cells bx 26 (0, 0))
 res : W.heap[b0 + 1]? = some (.cells #[.int .i64 0, .slice none 0 0, .slice none 0 0, .slice none 0 0, .slice none 0 0, .bool false] 26 (0, 0))
 out : ZB W gb (.int .i64 z.n) vc vi vg vr (.bool false)
 fl : FOs (b0 + 1 + 1) W (vc :: vr :: vals) (z.c.map plainU :: List.replicate z.n.toNat 0 :: g)
 ids : OwnG (fun x => [cI x]) 3 1 W (b0 + 1 + 1) vi ids
 g : OwnG (fun x => [cV x]) 22 1 W (b0 + 1 + 1) vg vals
 lo : b0 + 1 + 1 ≤ gb
section
variable {b0 gb : Nat} {bx : Array Value} {z : ZD} {vc vr : Value} {W W1 W2 : World} {vi vg vi' vg' v : Value} {vals : List Value} {ids ids' : List Int} {g : List (List Nat)} {us : List Nat}
theorem LSt.below (h : LSt b0 gb bx z vc vr W vi vg vals ids g) (hb : Below W.heap.size W W1) : LSt b0 gb bx z vc vr W1 vi vg vals ids g :=
 ⟨(hb.block _ (Array.getElem?_eq_some_iff.1 h.box).1).trans h.box, (hb.block _ (Array.getElem?_eq_some_iff.1 h.res).1).trans h.res, h.out.below hb, h.fl.below hb, h.ids.below hb, h.g.below hb, h.lo⟩
theorem LSt.own' {row : Option Nat} (h : LSt b0 gb bx z vc vr W vi vg vals ids g) (hg : W.grownBy W1 row) (hr : Apart W row) : LSt b0 gb bx z vc vr W1 vi vg vals ids g :=
 ⟨heap_own h.box hg hr, heap_own h.res hg hr, heap_own h.out hg hr, h.fl.own' hg hr, ownG_own h.ids hg hr, ownG_own h.g hg hr, h.lo⟩
theorem LSt.size (h : LSt b0 gb bx z vc vr W vi vg vals ids g) : b0 + 1 + 1 ≤ W.heap.size := Nat.le_trans h.lo (Nat.le_of_lt (Array.getElem?_eq_some_iff.1 h.out).1)
/-- All but the list that has grown. -/
theorem LSt.far {row : Option Nat} {t0 : TypeId} (h : LSt b0 gb bx z vc vr W vi vg vals ids g) (hg : W.grownBy W1 row) (hr : ∀ g, row = some g → Typed W g t0) (h1 : 26 ≠ t0) (h2 : 43 ≠ t0) :
  W1.heap[b0]? = some (.cells bx 26 (0, 0)) ∧ W1.heap[b0 + 1]? = some (.cells #[.int .i64 0, .slice none 0 0, .slice none 0 0, .slice none 0 0, .slice none 0 0, .bool false] 26 (0, 0)) ∧ ZB W1 gb (.int .i64 z.n) vc vi vg vr (.bool false) ∧ FOs (b0 + 1 + 1) W1 (vc :: vr :: vals) (z.c.map plainU :: List.replicate z.n.toNat 0 :: g) :=
 ⟨block_far h.box hg hr h1, block_far h.res hg hr h1, block_far h.out hg hr h1, h.fl.far hg hr h2⟩
theorem LSt.putIds (h : LSt b0 gb bx z vc vr W vi vg vals ids g) (ho : OwnG (fun x => [cI x]) 3 1 W2 (b0 + 1 + 1) vi' ids') (hg : W.grownBy W2 vi.ownBlock) :
  ZB W2 gb (.int .i64 z.n) vc vi vg vr (.bool false) ∧ LSt b0 gb bx z vc vr (W2.setCell ⟨gb, 2, none⟩ vi') vi' vg vals ids' g ∧ Wrote (b0 + 1 + 1) gb W (W2.setCell ⟨gb, 2, none⟩ vi') := by
 obtain ⟨k0, k1, k2, k3⟩ := h.far hg h.ids.typed (by decide) (by decide)
 have k4 := h.g.farR hg h.ids.typed (by decide)
 obtain ⟨q1, q2⟩ := k2.set2 vi'
 have hlo := h.lo
 have hb2 : Below (b0 + 1 + 1) W W2 := below_ownG h.ids hg h.size
 exact ⟨k2, ⟨(q2.block _ (Array.getElem?_eq_some_iff.1 k0).1 (fun e => by cases e; omega)).trans k0, (q2.block _ (Array.getElem?_eq_some_iff.1 k1).1 (fun e => by cases e; omega)).trans k1, q1, k3.far q2 (fun g e => by cases e; exact k2.typed) (by decide), ho.farR q2 (fun g e => by cases e; exact k2.typed) (by decide), k4.farR q2 (fun g e => by cases e; exact k2.typed) (by decide), h.lo⟩,
  (Wrote.grow hg h.ids.typed (by decide) hb2).trans (Wrote.set k2 hlo 2 vi')⟩
theorem LSt.putCol2 (h : LSt b0 gb bx z vc vr W vi vg vals ids g) (hb : Below W.heap.size W W1) (hf : FOs (b0 + 1 + 1) W1 (vc :: vr :: (vals ++ [v])) (z.c.map plainU :: List.replicate z.n.toNat 0 :: (g ++ [us]))) (ho : OwnG (fun x => [cV x]) 22 1 W2 (b0 + 1 + 1) vg' (vals ++ [v])) (hg : W1.grownBy W2 vg.ownBlock) :
  ZB W2 gb (.int .i64 z.n) vc vi vg vr (.bool false) ∧ LSt b0 gb bx z vc vr (W2.setCell ⟨gb, 3, none⟩ vg') vi vg' (vals ++ [v]) ids (g ++ [us]) ∧ Wrote (b0 + 1 + 1) gb W (W2.setCell ⟨gb, 3, none⟩ vg') := by
 have h' := h.below hb
 obtain ⟨k0, k1, k2, _⟩ := h'.far hg h'.g.typed (by decide) (by decide)
 have k3 := hf.far hg h'.g.typed (by decide)
 have k4 := h'.ids.farR hg h'.g.typed (by decide)
 obtain ⟨q1, q2⟩ := k2.set3 vg'
 have hlo := h.lo
 have hb2 : Below (b0 + 1 + 1) W W2 := (hb.mono h.size).trans (below_ownG h'.g hg h'.size)
 exact ⟨k2, ⟨(q2.block _ (Array.getElem?_eq_some_iff.1 k0).1 (fun e => by cases e; omega)).trans k0, (q2.block _ (Array.getElem?_eq_some_iff.1 k1).1 (fun e => by cases e; omega)).trans k1, q1, k3.far q2 (fun g e => by cases e; exact k2.typed) (by decide), k4.farR q2 (fun g e => by cases e; exact k2.typed) (by decide), ho.farR q2 (fun g e => by cases e; exact k2.typed) (by decide), h.lo⟩,
  ((Wrote.of hb h.size).trans (Wrote.grow hg h'.g.typed (by decide) (below_ownG h'.g hg h'.size))).trans (Wrote.set k2 hlo 3 vg')⟩
theorem LSt.putCol (h : LSt b0 gb bx z vc vr W vi vg vals ids g) (hb : Below W.heap.size W W1) (hv : FO W.heap.size W1 v us) (ho : OwnG (fun x => [cV x]) 22 1 W2 (b0 + 1 + 1) vg' (vals ++ [v])) (hg : W1.grownBy W2 vg.ownBlock) :
  ZB W2 gb (.int .i64 z.n) vc vi vg vr (.bool false) ∧ LSt b0 gb bx z vc vr (W2.setCell ⟨gb, 3, none⟩ vg') vi vg' (vals ++ [v]) ids (g ++ [us]) ∧ Wrote (b0 + 1 + 1) gb W (W2.setCell ⟨gb, 3, none⟩ vg') :=
 h.putCol2 hb (h.fl.snoc hb hv h.size) ho hg
end
/-- The state of the columns behind the first k numbers of R. -/
def LiftAt (z : ZD) (next : Int) (k : Nat) (ids : List Int) (g : List (List Nat)) (a : Int) : Prop := liftT z next k = some (ids, g, a)
theorem LiftAt.zero (z : ZD) (next : Int) : LiftAt z next 0 z.ids (z.g.map fun g => g.map plainU) next := rfl
theorem sig_of_fz {u : Nat} (h : fz u = 0) : sig u = 0 := by
 have h1 := fz_natAbs u
 rw [h] at h1
 have h2 := Nat.two_pow_pos (pwr u + 2212).toNat
 rcases Nat.eq_zero_or_pos (sig u) with h3 | h3
 ·exact h3
 ·have := Nat.mul_pos h3 h2
  simp at h1
  omega
theorem sig_ne_fz {u : Nat} (h : 0 < fz u) : sig u ≠ 0 := fun h0 => by
 have h1 := fz_natAbs u
 rw [h0, Nat.zero_mul] at h1
 omega
theorem finR_map {α β : Type} (xs : List α) (d : α) (m : Nat) (hm : xs.length = m) (f : α → β) : (List.finRange m).map (fun k => f (xs.getD k.1 d)) = xs.map f := by
 refine List.ext_getElem? fun j => ?_
 rw [List.getElem?_map, List.getElem?_map]
 by_cases hj : j < m
 ·rw [List.getElem?_eq_getElem (by rw [List.length_finRange]; exact hj), List.getElem_finRange, List.getElem?_eq_getElem (by omega)]
  show some (f (xs.getD j d)) = _
  rw [List.getD_eq_getElem?_getD, List.getElem?_eq_getElem (by omega)]
  rfl
 ·rw [List.getElem?_eq_none (by rw [List.length_finRange]; omega), List.getElem?_eq_none (by omega)]
  rfl
theorem finR_ids (z : ZD) (h : z.ids.length = z.g.length) : (List.finRange z.g.length).map (fun k => z.ids.getD k.1 0) = z.ids := by
 rw [finR_map z.ids 0 z.g.length h (fun i => i), List.map_id']
theorem finR_cols (z : ZD) : (List.finRange z.g.length).map (fun k => (colZ z k.1).map plainU) = z.g.map fun g => g.map plainU := finR_map z.g [] z.g.length rfl (fun g => g.map plainU)
theorem LSt.col {W : World} {b0 gb : Nat} {bx : Array Value} {z : ZD} {vc vr vi vg : Value} {vals : List Value} {ids : List Int} {g : List (List Nat)} (h : LSt b0 gb bx z vc vr W vi vg vals ids g) : vals.length = g.length := by
 have := h.fl.len
 simp only [List.length_cons] at this
 omega
theorem LSt.slices {W : World} {b0 gb : Nat} {bx : Array Value} {z : ZD} {vc vr vi vg : Value} {vals : List Value} {ids : List Int} {g : List (List Nat)} (h : LSt b0 gb bx z vc vr W vi vg vals ids g) :
  ∃ Ac cc Ar cr Ai ci Ag cg, vc = .slice Ac z.c.length cc ∧ vr = .slice Ar z.n.toNat cr ∧ vi = .slice Ai ids.length ci ∧ vg = .slice Ag g.length cg := by
 obtain ⟨Ac, cc, h1, _⟩ := (h.fl.get (j := 0) rfl rfl).lat
 obtain ⟨Ar, cr, h2, _⟩ := (h.fl.get (j := 1) rfl rfl).lat
 obtain ⟨Ai, ci, h3, _⟩ := h.ids.lat
 obtain ⟨Ag, cg, h4, _⟩ := h.g.lat
 rw [List.length_map] at h1
 rw [List.length_replicate] at h2
 rw [h.col] at h4
 exact ⟨Ac, cc, Ar, cr, Ai, ci, Ag, cg, h1, h2, h3, h4⟩
theorem LiftAt.len {z : ZD} {next : Int} {k : Nat} {ids : List Int} {g : List (List Nat)} {a : Int} (h : LiftAt z next k ids g a) : ids.length ≤ z.ids.length + k ∧ g.length ≤ z.g.length + k ∧ next ≤ a ∧ a ≤ next + k ∧ (a ≤ next ∨ a ≤ 1073741825) ∧ ids.length + z.g.length = g.length + z.ids.length := liftT_len h
theorem lift_over {z : ZD} {next : Int} {k u : Nat} {ids : List Int} {g : List (List Nat)} {a : Int} (hz : Good z) (hok : liftOk z next = true) (h : LiftAt z next k ids g a) (hu : z.r[k]? = some u) (hs : 0 < fz u) (ha : 1073741824 < a) : liftD z next = (lostZ (sizeD z), next) := by
 have h1 := liftT_none (liftT_over h hu (sig_ne_fz hs) ha) z.n.toNat (by have := (List.getElem?_eq_some_iff.1 hu).1; have := hz.lenR; omega)
 unfold liftD
 rw [if_pos hok, h1]
 unfold sizeD
 rw [(goodD_iff z).2 hz, Bool.true_or, if_pos rfl]
theorem lift_end {z : ZD} {next : Int} {ids : List Int} {g : List (List Nat)} {a : Int} (hz : Good z) (hok : liftOk z next = true) (h : LiftAt z next z.r.length ids g a) : liftD z next = (liftZ z ids g, a) := by
 have h1 : liftT z next z.n.toNat = some (ids, g, a) := by rw [show z.n.toNat = z.r.length by have := hz.lenR; omega]; exact h
 unfold liftD
 rw [if_pos hok, h1]
/-- What is handed back, behind the last writes. -/
theorem LSt.fin {b0 gb b D' : Nat} {bx : Array Value} {z : ZD} {vc vr vi vg : Value} {vals : List Value} {ids : List Int} {g : List (List Nat)} {W W' : World} {o o' : Obj} (h : LSt b0 gb bx z vc vr W vi vg vals ids g) (hg : W.grownBy W' (some b)) (hb : Typed W b 26) (hD : W'.heap[D']? = some o) (ho : o.isCells = false) : ZOwnC (b0 + 1 + 1) (W'.putObj D' o') (liftZ z ids g) vc vi vg vr vals := by
 have hr : ∀ k, some b = some k → Typed W k 26 := fun k e => by cases e; exact hb
 have hq : Apart W' (some D') := fun r e => by cases e; exact ⟨_, hD, ho⟩
 exact ⟨(h.fl.far hg hr (by decide)).own' (grownBy_putObj' W' D' o') hq, ownG_own (h.ids.farR hg hr (by decide)) (grownBy_putObj' W' D' o') hq, ownG_own (h.g.farR hg hr (by decide)) (grownBy_putObj' W' D' o') hq⟩
theorem make_fltsZ (n : Int) (h0 : 0 ≤ n) (hn : n ≤ 1000000) (w : World) : (Instr.makeSlice 22 (.int .i64 n) (.int .i64 n)).run Tryz.prog w = .ok (.slice (some ⟨w.heap.size, 0, none⟩) n.toNat n.toNat) (w.alloc (.cells (madeCells #[.float .f64 0] n.toNat) 43)) := by
 have h := make_flts n.toNat (by omega) w
 rw [Int.toNat_of_nonneg h0] at h
 exact h
/-- A row of noughts, made. -/
theorem FlB.made (w : World) (n : Nat) : FlB (w.alloc (.cells (madeCells #[.float .f64 0] n) 43)) w.heap.size n (List.replicate n 0) :=
 ⟨_, World.alloc_heap_new _ _, size_madeCells _ _, fun j u hu => by
  obtain ⟨hj, e⟩ := List.getElem?_eq_some_iff.1 hu
  rw [List.length_replicate] at hj
  rw [List.getElem_replicate] at e
  subst e
  exact made_get n j hj⟩
/-- One of its numbers, written. -/
theorem FlB.put {w : World} {g n k : Nat} {us : List Nat} (h : FlB w g n us) (hl : us.length = n) (hk : k < n) (u : Nat) : FlB (w.setCell ⟨g, k, none⟩ (.float .f64 u)) g n (us.set k u) ∧ w.grownBy (w.setCell ⟨g, k, none⟩ (.float .f64 u)) (some g) := by
 obtain ⟨cs, h1, h2, h3⟩ := h
 have e1 : (w.setCell ⟨g, k, none⟩ (.float .f64 u)).heap[g]? = _ := heap_setCell_same w g _ _ _ _ h1
 refine ⟨⟨_, e1, by simp [h2], fun j t ht => ?_⟩, grown_set (grown_refl w (some g)) _ _⟩
 rw [List.getElem?_set] at ht
 rw [Array.getElem?_setIfInBounds]
 split at ht
 ·next e =>
  rw [if_pos e, if_pos (by omega)]
  rw [if_pos (by omega)] at ht
  cases ht
  rfl
 ·next e =>
  rw [if_neg e]
  exact h3 j t ht
theorem FlB.farR {w w1 : World} {g n : Nat} {us : List Nat} {row : Option Nat} {t0 : TypeId} (h : FlB w g n us) (hg : w.grownBy w1 row) (hr : ∀ g, row = some g → Typed w g t0) (hne : 43 ≠ t0) : FlB w1 g n us := by
 obtain ⟨cs, h1, h2⟩ := h
 exact ⟨cs, block_far h1 hg hr hne, h2⟩
theorem ZB.new (w : World) (v0 v1 v2 v3 v4 v5 : Value) : ZB (w.alloc (.cells #[v0, v1, v2, v3, v4, v5] 26)) w.heap.size v0 v1 v2 v3 v4 v5 := World.alloc_heap_new _ _
theorem ZB.new1 (w : World) (o : Obj) (v0 v1 v2 v3 v4 v5 : Value) : ZB ((w.alloc o).alloc (.cells #[v0, v1, v2, v3, v4, v5] 26)) (w.heap.size + 1) v0 v1 v2 v3 v4 v5 := by
 have := ZB.new (w.alloc o) v0 v1 v2 v3 v4 v5
 rw [World.size_alloc] at this
 exact this
theorem FlB.made' (w : World) (n : Nat) {g : Nat} (h : w.heap.size = g) : FlB (w.alloc (.cells (madeCells #[.float .f64 0] n) 43)) g n (List.replicate n 0) := by
 subst h
 exact FlB.made w n
theorem FlB.lt {w : World} {g n : Nat} {us : List Nat} (h : FlB w g n us) : g < w.heap.size := by
 obtain ⟨cs, h1, _⟩ := h
 exact (Array.getElem?_eq_some_iff.1 h1).1
theorem FlB.made1 (w : World) (o : Obj) (n : Nat) : FlB ((w.alloc o).alloc (.cells (madeCells #[.float .f64 0] n) 43)) (w.heap.size + 1) n (List.replicate n 0) := by
 have := FlB.made (w.alloc o) n
 rw [World.size_alloc] at this
 exact this
theorem LSt.start {w wc W : World} {z : ZD} {bx : Array Value} {gb gC gR : Nat} (g0 : wc.heap[w.heap.size]? = some (.cells bx 26 (0, 0))) (g1 : ZB wc (w.heap.size + 1) (.int .i64 0) (.slice none 0 0) (.slice none 0 0) (.slice none 0 0) (.slice none 0 0) (.bool false))
  (hb1 : Below w.heap.size w wc) (hb : Below wc.heap.size wc W) (hz : Good z) (out : ZB W gb (.int .i64 z.n) (.slice (some ⟨gC, 0, none⟩) z.c.length z.c.length) (.slice none 0 0) (.slice none 0 0) (.slice (some ⟨gR, 0, none⟩) z.n.toNat z.n.toNat) (.bool false))
  (hC : FlB W gC z.c.length (z.c.map plainU)) (hR : FlB W gR z.n.toNat (List.replicate z.n.toNat 0)) (l1 : wc.heap.size ≤ gb) (l2 : wc.heap.size ≤ gC) (l3 : wc.heap.size ≤ gR) (hne : gC ≠ gR) :
  LSt w.heap.size gb bx z (.slice (some ⟨gC, 0, none⟩) z.c.length z.c.length) (.slice (some ⟨gR, 0, none⟩) z.n.toNat z.n.toNat) W (.slice none 0 0) (.slice none 0 0) [] [] [] ∧ Below w.heap.size w W := by
 have hl := g1.lt
 have h1 := hz.lenC
 have h2 := hz.n2
 refine ⟨⟨(hb.block _ (Array.getElem?_eq_some_iff.1 g0).1).trans g0, (hb.block _ hl).trans g1, out, ⟨rfl, fun j us hu => ?_, fun i j v v' g hij h1 h2 hg => ?_⟩, OwnG.nil _ _, OwnG.nil _ _, by omega⟩, hb1.trans (hb.mono hb1.size)⟩
 ·match j, hu with
  | 0, hu => cases hu; exact ⟨_, rfl, hC.own (by rw [List.length_map]) (by omega) (by unfold maxLen; omega)⟩
  | 1, hu => cases hu; exact ⟨_, rfl, hR.own (by rw [List.length_replicate]) (by omega) (by unfold maxLen; omega)⟩
  | (j + 2), hu => simp at hu
 ·match i, j, hij, h1, h2 with
  | 0, 1, _, h1, h2 =>
   cases h1
   cases h2
   injection hg with hg
   subst hg
   intro e
   injection e with e
   exact hne e.symm
  | 0, (j + 2), _, _, h2 => simp at h2
  | 1, (j + 2), _, _, h2 => simp at h2
  | (i + 2), _, _, h1, _ => simp at h1
end Go.Proofs.YtpfbgenefjhcjaaGreatDoor
namespace Go.Proofs.YtpfbgenefjhcjaaGreatDoor
set_option linter.unusedVariables false
set_option linter.unusedSimpArgs false
open Go Go.RowKit Go.Shelf
attribute [local go_sem] Oper.semAt_some run_store_flt
set_option maxRecDepth 100000
def TellsLift (w : World) (p : ZD × Int) (e : Ending) (w' : World) : Prop := ∃ v, e = .returned (.tuple #[v, .int .i64 p.2]) ∧ ZOwn w.heap.size w' v p.1 ∧ Below w.heap.size w w'
set_option maxHeartbeats 4000000 in
theorem lift_no (w : World) (A B C D : Option Addr) (kA kB kC kD : Nat) (z : ZD) (next : Int) (hc : ZCells w z A B C D kA kB kC kD) (hk : ZOk z) (hno : liftOk z next = false) :
  Calls Tryz.prog 43 #[zval z A B C D kA kB kC kD, .int .i64 next] w fun e w' => TellsLift w (lostZ (sizeD z), next) e w' := by
 unfold TellsLift
 obtain ⟨f0, f1, f2, f3⟩ := two_blocks w (.cells #[.int .i64 z.n, .slice A z.c.length kA, .slice B z.ids.length kB, .slice C z.g.length kC, .slice D z.r.length kD, .bool z.bad] 26) (.cells #[.int .i64 0, .slice none 0 0, .slice none 0 0, .slice none 0 0, .slice none 0 0, .bool false] 26)
 have hg := good_any _ _ z ⟨A, B, C, D, kA, kB, kC, kD, rfl, hc.below f3⟩ hk
 unfold zval at hg ⊢
 unfold liftOk at hno
 generalize hgd : goodD z = gd at hg hno
 have HGD := Lib.hid hgd
 clear hgd
 cases gd with
 | false =>
  clear hno
  go_enter Tryz.func43, Tryz.ntmps43
  go_wp2_with fail
  refine hg.mono ?_
  rintro e w1 ⟨rfl, hb⟩
  have hb1 := f3.trans (hb.mono f3.size)
  rw [f2] at hb
  have g0 := (hb.block _ (by omega)).trans f0
  have g1 := (hb.block _ (by omega)).trans f1
  have hsz := hb.size
  rw [f2] at hsz
  obtain ⟨x0, x1, x2, x3, x4, x5⟩ := cells6 g0
  clear hb f0 f1 f2 f3 hg
  go_wp2_with fail
  have hbd := bad_any w1 _ z ⟨A, B, C, D, kA, kB, kC, kD, rfl, hc.below hb1⟩ hk
  unfold zval lostV at hbd
  refine hbd.mono ?_
  rintro e w2 ⟨rfl, hb2⟩
  have k1 := (hb2.block _ (by omega)).trans g1
  have hb3 := hb1.trans (hb2.mono hb1.size)
  clear x0 x1 x2 x3 x4 x5 hb2 g0 g1 hbd
  obtain ⟨y0, y1, y2, y3, y4, y5⟩ := cells6 k1
  have hfr := fun j => frozen_of_row w2 _ j _ _ k1
  go_wp2_with fail
  obtain ⟨q1, q2⟩ := set6 k1 (.int .i64 (sizeD z)) (.slice none 0 0) (.slice none 0 0) (.slice none 0 0) (.slice none 0 0) (.bool true)
  obtain ⟨c0, c1, c2, c3, c4, c5⟩ := cells6 q1
  refine bodyPost_ret (v := .tuple #[.agg #[.int .i64 (sizeD z), .slice none 0 0, .slice none 0 0, .slice none 0 0, .slice none 0 0, .bool true], .int .i64 next]) (by simp [results, Tryz.results43, go_sem, c0, c1, c2, c3, c4, c5]) rfl ?_
  exact ⟨_, rfl, lost_own _ _ _, hb3.trans (below_row q2 (by omega) hb3.size)⟩
 | true =>
  by_cases hn : next < 0
  ·clear hno
   go_enter Tryz.func43, Tryz.ntmps43
   go_wp2_with fail
   refine hg.mono ?_
   rintro e w1 ⟨rfl, hb⟩
   have hb1 := f3.trans (hb.mono f3.size)
   rw [f2] at hb
   have g0 := (hb.block _ (by omega)).trans f0
   have g1 := (hb.block _ (by omega)).trans f1
   have hsz := hb.size
   rw [f2] at hsz
   obtain ⟨x0, x1, x2, x3, x4, x5⟩ := cells6 g0
   clear hb f0 f1 f2 f3 hg
   go_wp2_with fail
   have hbd := bad_any w1 _ z ⟨A, B, C, D, kA, kB, kC, kD, rfl, hc.below hb1⟩ hk
   unfold zval lostV at hbd
   refine hbd.mono ?_
   rintro e w2 ⟨rfl, hb2⟩
   have k1 := (hb2.block _ (by omega)).trans g1
   have hb3 := hb1.trans (hb2.mono hb1.size)
   clear x0 x1 x2 x3 x4 x5 hb2 g0 g1 hbd
   obtain ⟨y0, y1, y2, y3, y4, y5⟩ := cells6 k1
   have hfr := fun j => frozen_of_row w2 _ j _ _ k1
   go_wp2_with fail
   obtain ⟨q1, q2⟩ := set6 k1 (.int .i64 (sizeD z)) (.slice none 0 0) (.slice none 0 0) (.slice none 0 0) (.slice none 0 0) (.bool true)
   obtain ⟨c0, c1, c2, c3, c4, c5⟩ := cells6 q1
   refine bodyPost_ret (v := .tuple #[.agg #[.int .i64 (sizeD z), .slice none 0 0, .slice none 0 0, .slice none 0 0, .slice none 0 0, .bool true], .int .i64 next]) (by simp [results, Tryz.results43, go_sem, c0, c1, c2, c3, c4, c5]) rfl ?_
   exact ⟨_, rfl, lost_own _ _ _, hb3.trans (below_row q2 (by omega) hb3.size)⟩
  ·have hn' : decide (next < 0) = false := by simp; omega
   rw [decide_eq_true (show (0 : Int) ≤ next by omega), Bool.true_and, Bool.true_and] at hno
   rw [Bool.or_eq_false_iff, beq_eq_false_iff_ne, decide_eq_false_iff_not] at hno
   obtain ⟨h0, h1⟩ := hno
   obtain ⟨i, hi⟩ : ∃ i, z.ids[z.ids.length - 1]? = some i := ⟨z.ids[z.ids.length - 1]'(by omega), List.getElem?_eq_getElem _⟩
   rw [List.getD_eq_getElem?_getD, hi, Option.getD_some] at h1
   have hil : next ≤ i := by omega
   have hl0 : (0 : Int) < (z.ids.length : Int) := by omega
   have hl0' : 0 < z.ids.length := by omega
   have hli := hk.li
   unfold MAXF at hli
   clear h0 h1 hn
   go_enter Tryz.func43, Tryz.ntmps43
   go_wp2_with fail
   refine hg.mono ?_
   rintro e w1 ⟨rfl, hb⟩
   have hb1 := f3.trans (hb.mono f3.size)
   rw [f2] at hb
   have g0 := (hb.block _ (by omega)).trans f0
   have g1 := (hb.block _ (by omega)).trans f1
   have hsz := hb.size
   rw [f2] at hsz
   obtain ⟨x0, x1, x2, x3, x4, x5⟩ := cells6 g0
   clear hb f0 f1 f2 f3 hg
   obtain ⟨b, o, rfl, hbb, hcell⟩ := hc.ids.cell hb1 (z.ids.length - 1) i hi
   have kn : ((z.ids.length : Int) - 1).toNat = z.ids.length - 1 := by omega
   have kp : (0 : Int) ≤ (z.ids.length : Int) - 1 := by omega
   have kp' : 1 ≤ z.ids.length := by omega
   have kl : (z.ids.length : Int) - 1 < (z.ids.length : Int) := by omega
   clear hi
   go_wp2_with fail
   clear kn kp kp' kl hl0 hl0' hli hcell
   have hbd := bad_any w1 _ z ⟨A, some ⟨b, o, none⟩, C, D, kA, kB, kC, kD, rfl, hc.below hb1⟩ hk
   unfold zval lostV at hbd
   refine hbd.mono ?_
   rintro e w2 ⟨rfl, hb2⟩
   have k1 := (hb2.block _ (by omega)).trans g1
   have hb3 := hb1.trans (hb2.mono hb1.size)
   clear x0 x1 x2 x3 x4 x5 hb2 g0 g1 hbd
   obtain ⟨y0, y1, y2, y3, y4, y5⟩ := cells6 k1
   have hfr := fun j => frozen_of_row w2 _ j _ _ k1
   go_wp2_with fail
   obtain ⟨q1, q2⟩ := set6 k1 (.int .i64 (sizeD z)) (.slice none 0 0) (.slice none 0 0) (.slice none 0 0) (.slice none 0 0) (.bool true)
   obtain ⟨c0, c1, c2, c3, c4, c5⟩ := cells6 q1
   refine bodyPost_ret (v := .tuple #[.agg #[.int .i64 (sizeD z), .slice none 0 0, .slice none 0 0, .slice none 0 0, .slice none 0 0, .bool true], .int .i64 next]) (by simp [results, Tryz.results43, go_sem, c0, c1, c2, c3, c4, c5]) rfl ?_
   exact ⟨_, rfl, lost_own _ _ _, hb3.trans (below_row q2 (by omega) hb3.size)⟩
set_option maxHeartbeats 8000000 in
theorem lift_yes (w : World) (A B C D : Option Addr) (kA kB kC kD : Nat) (z : ZD) (next : Int) (hc : ZCells w z A B C D kA kB kC kD) (hk : ZOk z) (hz : Good z) (hn0 : 0 ≤ next) (hn1 : next ≤ 9223372036854775807) (hlast : z.ids.length = 0 ∨ (z.ids.length ≠ 0 ∧ z.ids.getD (z.ids.length - 1) 0 < next)) :
  Calls Tryz.prog 43 #[zval z A B C D kA kB kC kD, .int .i64 next] w fun e w' => TellsLift w (liftD z next) e w' := by
 have hN1 := hz.n1
 have hN2 := hz.n2
 have hgd := (goodD_iff z).2 hz
 obtain ⟨f0, f1, f2, f3⟩ := two_blocks w (.cells #[.int .i64 z.n, .slice A z.c.length kA, .slice B z.ids.length kB, .slice C z.g.length kC, .slice D z.r.length kD, .bool z.bad] 26) (.cells #[.int .i64 0, .slice none 0 0, .slice none 0 0, .slice none 0 0, .slice none 0 0, .bool false] 26)
 have hg := good_any _ _ z ⟨A, B, C, D, kA, kB, kC, kD, rfl, hc.below f3⟩ hk
 rw [hgd] at hg
 have hno : decide (next < 0) = false := by simp; omega
 have hokD : liftOk z next = true := by
  unfold liftOk
  rw [hgd, decide_eq_true hn0, Bool.true_and, Bool.true_and]
  rcases hlast with h | ⟨_, h⟩
  ·rw [h]; rfl
  ·rw [decide_eq_true h, Bool.or_true]
 have HOK := Lib.hid hokD
 clear hokD
 have HL := Lib.hid hlast
 clear hlast
 refine (callsIn_wide (n := 5)).1 ?_
 unfold zval at hg ⊢
 refine callsIn_of_wp_marks Tryz.func43 rfl trivial ?_ rfl
 simp only [Tryz.ntmps43, List.size_toArray, List.length_cons, List.length_nil, Nat.reduceAdd, Nat.reduceSub, Array.replicate_succ, Array.replicate_zero, List.push_toArray, List.append_toArray, List.nil_append, List.cons_append]
 refine wpIn_wide.2 ?_
 go_upto_region 1 with fail
 go_cut [37] from 13 to 37 (fun c wx => c = .bool false ∧ ZB wx w.heap.size (.int .i64 z.n) (.slice A z.c.length kA) (.slice B z.ids.length kB) (.slice C z.g.length kC) (.slice D z.r.length kD) (.bool z.bad) ∧ ZB wx (w.heap.size + 1) (.int .i64 0) (.slice none 0 0) (.slice none 0 0) (.slice none 0 0) (.slice none 0 0) (.bool false) ∧ Below w.heap.size w wx)
 case first =>
  go_wp2_with fail
  refine hg.mono ?_
  rintro e w1 ⟨rfl, hb⟩
  have hb1 := f3.trans (hb.mono f3.size)
  rw [f2] at hb
  have g0 := (hb.block _ (by omega)).trans f0
  have g1 := (hb.block _ (by omega)).trans f1
  obtain ⟨x0, x1, x2, x3, x4, x5⟩ := cells6 g0
  clear hb f0 f1 f2 f3 hg
  rcases HL.out with h0 | ⟨h0, h1⟩
  ·have hl0 : decide ((0 : Int) < (z.ids.length : Int)) = false := decide_eq_false (by omega)
   have hl0' : decide (0 < z.ids.length) = false := decide_eq_false (by omega)
   clear h0
   go_wp2_with fail
   go_meet
   exact ⟨rfl, g0, g1, hb1⟩
  ·obtain ⟨i, hi⟩ : ∃ i, z.ids[z.ids.length - 1]? = some i := ⟨z.ids[z.ids.length - 1]'(by omega), List.getElem?_eq_getElem _⟩
   rw [List.getD_eq_getElem?_getD, hi, Option.getD_some] at h1
   have hil : decide (next ≤ i) = false := by simp; omega
   have hl0 : (0 : Int) < (z.ids.length : Int) := by omega
   have hl0' : 0 < z.ids.length := by omega
   have hli := hk.li
   unfold MAXF at hli
   clear h0 h1
   obtain ⟨b, o, rfl, hbb, hcell⟩ := hc.ids.cell hb1 (z.ids.length - 1) i hi
   have kn : ((z.ids.length : Int) - 1).toNat = z.ids.length - 1 := by omega
   have kp : (0 : Int) ≤ (z.ids.length : Int) - 1 := by omega
   have kp' : 1 ≤ z.ids.length := by omega
   have kl : (z.ids.length : Int) - 1 < (z.ids.length : Int) := by omega
   clear hi
   go_wp2_with fail
   go_meet
   exact ⟨rfl, g0, g1, hb1⟩
 case rest =>
  obtain ⟨rfl, g0, g1, hb1⟩ := hcut
  clear f0 f1 f2 f3 hg hno
  obtain ⟨x0, x1, x2, x3, x4, x5⟩ := cells6 g0
  have hl0 := (Array.getElem?_eq_some_iff.1 g0).1
  go_upto_region 3 with fail
  go_cut [6] from 41 to 49 (fun v wx => ∃ (gb : Nat) (vc vr : Value), v = .pointer (some ⟨gb, 0, none⟩) ∧ LSt w.heap.size gb #[.int .i64 z.n, .slice A z.c.length kA, .slice B z.ids.length kB, .slice C z.g.length kC, .slice D z.r.length kD, .bool z.bad] z vc vr wx (.slice none 0 0) (.slice none 0 0) [] [] [] ∧ Below w.heap.size w wx)
  case first =>
   have hlc : z.c.length ≤ 1000000 := by have := hz.lenC; omega
   have hplC := fun w1 (hb : Below wc.heap.size wc w1) => plain_any w1 A z.c.length kA z.c (hc.c.below (Nat.le_refl _) (hb1.trans (hb.mono hb1.size))) rfl hlc hk.c hz.numC
   have hmk := make_fltsZ z.n (by omega) (by omega)
   have hS := fun W (hb : Below wc.heap.size wc W) => (show W.cell? ⟨w.heap.size, 0, none⟩ = some (.int .i64 z.n) ∧ W.cell? ⟨w.heap.size, 1, none⟩ = some (.slice A z.c.length kA) from ⟨(hb.cell (p := ⟨w.heap.size, 0, none⟩) hl0).trans x0, (hb.cell (p := ⟨w.heap.size, 1, none⟩) hl0).trans x1⟩)
   have hd := (Below.refl wc.heap.size wc).drew
   have hda := fun o => ((Below.refl wc.heap.size wc).alloc (Nat.le_refl _) o).drew
   have hdb := fun o o' => (((Below.refl wc.heap.size wc).alloc (Nat.le_refl _) o).alloc (by simp) o').drew
   have hzZ : ZB (wc.alloc (.cells #[.int .i64 0, .slice none 0 0, .slice none 0 0, .slice none 0 0, .slice none 0 0, .bool false] 26)).drew wc.heap.size (.int .i64 0) (.slice none 0 0) (.slice none 0 0) (.slice none 0 0) (.slice none 0 0) (.bool false) := World.alloc_heap_new wc (.cells #[.int .i64 0, .slice none 0 0, .slice none 0 0, .slice none 0 0, .slice none 0 0, .bool false] 26)
   have hzZM : ZB ((wc.alloc (.cells #[.int .i64 0, .slice none 0 0, .slice none 0 0, .slice none 0 0, .slice none 0 0, .bool false] 26)).alloc (.cells (madeCells #[.float .f64 0] z.n.toNat) 43)).drew wc.heap.size (.int .i64 0) (.slice none 0 0) (.slice none 0 0) (.slice none 0 0) (.slice none 0 0) (.bool false) := (Below.heap_alloc (wc.alloc (.cells #[.int .i64 0, .slice none 0 0, .slice none 0 0, .slice none 0 0, .slice none 0 0, .bool false] 26)) (.cells (madeCells #[.float .f64 0] z.n.toNat) 43) wc.heap.size (by simp)).trans (World.alloc_heap_new wc (.cells #[.int .i64 0, .slice none 0 0, .slice none 0 0, .slice none 0 0, .slice none 0 0, .bool false] 26))
   have hzMZ : ZB ((wc.alloc (.cells (madeCells #[.float .f64 0] z.n.toNat) 43)).alloc (.cells #[.int .i64 0, .slice none 0 0, .slice none 0 0, .slice none 0 0, .slice none 0 0, .bool false] 26)).drew (wc.heap.size + 1) (.int .i64 0) (.slice none 0 0) (.slice none 0 0) (.slice none 0 0) (.slice none 0 0) (.bool false) := by
    have := World.alloc_heap_new (wc.alloc (.cells (madeCells #[.float .f64 0] z.n.toNat) 43)) (.cells #[.int .i64 0, .slice none 0 0, .slice none 0 0, .slice none 0 0, .slice none 0 0, .bool false] 26)
    rw [World.size_alloc] at this
    exact this
   have hszZ : wc.heap.size ≤ wc.heap.size := Nat.le_refl _
   have hszMZ : wc.heap.size ≤ wc.heap.size + 1 := Nat.le_succ _
   clear x2 x3 x4 x5
   go_region_held3 (fun w' => w'.cell? ⟨w.heap.size, 0, none⟩ = some (.int .i64 z.n) ∧ w'.cell? ⟨w.heap.size, 1, none⟩ = some (.slice A z.c.length kA))
    (first | (with_reducible exact hS _ hd) | (with_reducible exact hS _ (hda _)) | (with_reducible exact hS _ (hdb _ _)) | (with_reducible exact hS _ hg9) | (with_reducible exact hS _ (hg9.alloc hg9.size _)) | (with_reducible exact hS _ ((hg9.alloc hg9.size _).alloc (hg9.alloc hg9.size _).size _)) | (with_reducible exact hS _ (hst6 _ _ _ _ _ _)) | (with_reducible exact hS _ (hst7 _ _ _ _ _ _)) | (with_reducible exact hS _ ((hst6 _ _ _ _ _ _).alloc (hst6 _ _ _ _ _ _).size _)) | (with_reducible exact hS _ (hst6 _ _ _ _ _ _)) | (fail "KEEP"))
    (first
     | (go_at_call 91; (with_reducible refine (hplC _ (hd)).mono ?_); rintro e w9 ⟨g9, rfl, hl9, hF9, hb9⟩; have hg9 := (hd).trans (hb9.mono (hd).size))
     | (go_at_call 91; (with_reducible refine (hplC _ (hda (.cells #[.int .i64 0, .slice none 0 0, .slice none 0 0, .slice none 0 0, .slice none 0 0, .bool false] 26))).mono ?_); rintro e w9 ⟨g9, rfl, hl9, hF9, hb9⟩; have hg9 := (hda (.cells #[.int .i64 0, .slice none 0 0, .slice none 0 0, .slice none 0 0, .slice none 0 0, .bool false] 26)).trans (hb9.mono (hda (.cells #[.int .i64 0, .slice none 0 0, .slice none 0 0, .slice none 0 0, .slice none 0 0, .bool false] 26)).size); have hz9 := ZB.below hzZ hb9; have hzl := ZB.lt hz9; have hst6 := (fun v0 v1 v2 v3 v4 v5 => hg9.trans (below_row (set6 hz9 v0 v1 v2 v3 v4 v5).2 hszZ hg9.size)); have hst7 := (fun v0 v1 v2 v3 v4 v5 => (hg9.alloc hg9.size (.cells (madeCells #[.float .f64 0] z.n.toNat) 43)).trans (below_row (set6 (ZB.below hz9 (below_alloc w9 (.cells (madeCells #[.float .f64 0] z.n.toNat) 43))) v0 v1 v2 v3 v4 v5).2 hszZ (hg9.alloc hg9.size (.cells (madeCells #[.float .f64 0] z.n.toNat) 43)).size)); obtain ⟨z0, z1, z2, z3, z4, z5⟩ := cells6 hz9; have hfr := (fun j => frozen_of_row w9 _ j _ _ hz9))
     | (go_at_call 91; (with_reducible refine (hplC _ (hda (.cells (madeCells #[.float .f64 0] z.n.toNat) 43))).mono ?_); rintro e w9 ⟨g9, rfl, hl9, hF9, hb9⟩; have hg9 := (hda (.cells (madeCells #[.float .f64 0] z.n.toNat) 43)).trans (hb9.mono (hda (.cells (madeCells #[.float .f64 0] z.n.toNat) 43)).size))
     | (go_at_call 91; (with_reducible refine (hplC _ (hdb (.cells (madeCells #[.float .f64 0] z.n.toNat) 43) (.cells #[.int .i64 0, .slice none 0 0, .slice none 0 0, .slice none 0 0, .slice none 0 0, .bool false] 26))).mono ?_); rintro e w9 ⟨g9, rfl, hl9, hF9, hb9⟩; have hg9 := (hdb (.cells (madeCells #[.float .f64 0] z.n.toNat) 43) (.cells #[.int .i64 0, .slice none 0 0, .slice none 0 0, .slice none 0 0, .slice none 0 0, .bool false] 26)).trans (hb9.mono (hdb (.cells (madeCells #[.float .f64 0] z.n.toNat) 43) (.cells #[.int .i64 0, .slice none 0 0, .slice none 0 0, .slice none 0 0, .slice none 0 0, .bool false] 26)).size); have hz9 := ZB.below hzMZ hb9; have hzl := ZB.lt hz9; have hst6 := (fun v0 v1 v2 v3 v4 v5 => hg9.trans (below_row (set6 hz9 v0 v1 v2 v3 v4 v5).2 hszMZ hg9.size)); have hst7 := (fun v0 v1 v2 v3 v4 v5 => (hg9.alloc hg9.size (.cells (madeCells #[.float .f64 0] z.n.toNat) 43)).trans (below_row (set6 (ZB.below hz9 (below_alloc w9 (.cells (madeCells #[.float .f64 0] z.n.toNat) 43))) v0 v1 v2 v3 v4 v5).2 hszMZ (hg9.alloc hg9.size (.cells (madeCells #[.float .f64 0] z.n.toNat) 43)).size)); obtain ⟨z0, z1, z2, z3, z4, z5⟩ := cells6 hz9; have hfr := (fun j => frozen_of_row w9 _ j _ _ hz9))
     | (go_at_call 91; (with_reducible refine (hplC _ (hdb (.cells #[.int .i64 0, .slice none 0 0, .slice none 0 0, .slice none 0 0, .slice none 0 0, .bool false] 26) (.cells (madeCells #[.float .f64 0] z.n.toNat) 43))).mono ?_); rintro e w9 ⟨g9, rfl, hl9, hF9, hb9⟩; have hg9 := (hdb (.cells #[.int .i64 0, .slice none 0 0, .slice none 0 0, .slice none 0 0, .slice none 0 0, .bool false] 26) (.cells (madeCells #[.float .f64 0] z.n.toNat) 43)).trans (hb9.mono (hdb (.cells #[.int .i64 0, .slice none 0 0, .slice none 0 0, .slice none 0 0, .slice none 0 0, .bool false] 26) (.cells (madeCells #[.float .f64 0] z.n.toNat) 43)).size); have hz9 := ZB.below hzZM hb9; have hzl := ZB.lt hz9; have hst6 := (fun v0 v1 v2 v3 v4 v5 => hg9.trans (below_row (set6 hz9 v0 v1 v2 v3 v4 v5).2 hszZ hg9.size)); have hst7 := (fun v0 v1 v2 v3 v4 v5 => (hg9.alloc hg9.size (.cells (madeCells #[.float .f64 0] z.n.toNat) 43)).trans (below_row (set6 (ZB.below hz9 (below_alloc w9 (.cells (madeCells #[.float .f64 0] z.n.toNat) 43))) v0 v1 v2 v3 v4 v5).2 hszZ (hg9.alloc hg9.size (.cells (madeCells #[.float .f64 0] z.n.toNat) 43)).size)); obtain ⟨z0, z1, z2, z3, z4, z5⟩ := cells6 hz9; have hfr := (fun j => frozen_of_row w9 _ j _ _ hz9)))
   all_goals clear x0 x1 hplC hmk hS
   all_goals have hsz9 := hg9.size
   all_goals have hlt9 := hF9.lt
   all_goals (try simp only [World.size_drew, World.size_alloc] at hl9)
   ·go_wp2_with fail
    go_meet
    case rel => exact ⟨_, _, _, rfl, LSt.start g0 g1 hb1 ((hg9.alloc hg9.size _).alloc (hg9.alloc hg9.size _).size _) hz (ZB.new1 w9 _ _ _ _ _ _ _) ((hF9.below (below_alloc _ _)).below (below_alloc _ _)) ((FlB.made w9 _).below (below_alloc _ _)) (by omega) (by omega) (by omega) (by omega)⟩
   ·go_wp2_with fail
    go_meet
    case rel => exact ⟨_, _, _, rfl, LSt.start g0 g1 hb1 ((hg9.alloc hg9.size _).alloc (hg9.alloc hg9.size _).size _) hz (ZB.below (ZB.new w9 _ _ _ _ _ _) (below_alloc _ _)) ((hF9.below (below_alloc _ _)).below (below_alloc _ _)) (FlB.made1 w9 _ _) (by omega) (by omega) (by omega) (by omega)⟩
   ·go_wp2_with fail
    go_meet
    case rel => exact ⟨_, _, _, rfl, LSt.start g0 g1 hb1 (hg9.alloc hg9.size _) hz (ZB.new w9 _ _ _ _ _ _) (hF9.below (below_alloc _ _)) (((show FlB (wc.alloc (.cells (madeCells #[.float .f64 0] z.n.toNat) 43)).drew wc.heap.size _ _ from FlB.made wc _).below hb9).below (below_alloc _ _)) (by omega) (by omega) (by omega) (by omega)⟩
   ·go_wp2_with fail
    go_meet
    case rel => exact ⟨_, _, _, rfl, LSt.start g0 g1 hb1 (hst6 _ _ _ _ _ _) hz ((set6 hz9 _ _ _ _ _ _).1) (hF9.farR (set6 hz9 _ _ _ _ _ _).2 (fun g e => by cases e; exact hz9.typed) (by decide)) (((show FlB ((wc.alloc (.cells (madeCells #[.float .f64 0] z.n.toNat) 43)).alloc (.cells #[.int .i64 0, .slice none 0 0, .slice none 0 0, .slice none 0 0, .slice none 0 0, .bool false] 26)).drew wc.heap.size _ _ from (show FlB ((wc.alloc (.cells (madeCells #[.float .f64 0] z.n.toNat) 43)).alloc (.cells #[.int .i64 0, .slice none 0 0, .slice none 0 0, .slice none 0 0, .slice none 0 0, .bool false] 26)) wc.heap.size _ _ from (FlB.made wc _).below (below_alloc _ _))).below hb9).farR (set6 hz9 _ _ _ _ _ _).2 (fun g e => by cases e; exact hz9.typed) (by decide)) (by omega) (by omega) (by omega) (by omega)⟩
   ·go_wp2_with fail
    go_meet
    case rel => exact ⟨_, _, _, rfl, LSt.start g0 g1 hb1 ((hst6 _ _ _ _ _ _).alloc (hst6 _ _ _ _ _ _).size _) hz (ZB.below (set6 hz9 _ _ _ _ _ _).1 (below_alloc _ _)) ((hF9.farR (set6 hz9 _ _ _ _ _ _).2 (fun g e => by cases e; exact hz9.typed) (by decide)).below (below_alloc _ _)) (FlB.made' _ _ (by simp)) (by omega) (by omega) (by omega) (by omega)⟩
   ·go_wp2_with fail
    go_meet
    case rel => exact ⟨_, _, _, rfl, LSt.start g0 g1 hb1 (hst6 _ _ _ _ _ _) hz ((set6 hz9 _ _ _ _ _ _).1) (hF9.farR (set6 hz9 _ _ _ _ _ _).2 (fun g e => by cases e; exact hz9.typed) (by decide)) (((show FlB ((wc.alloc (.cells #[.int .i64 0, .slice none 0 0, .slice none 0 0, .slice none 0 0, .slice none 0 0, .bool false] 26)).alloc (.cells (madeCells #[.float .f64 0] z.n.toNat) 43)).drew (wc.heap.size + 1) _ _ from FlB.made1 wc _ _).below hb9).farR (set6 hz9 _ _ _ _ _ _).2 (fun g e => by cases e; exact hz9.typed) (by decide)) (by omega) (by omega) (by omega) (by omega)⟩
  case rest =>
   obtain ⟨gb, vc, vr, rfl, hst0, hbb⟩ := hcut
   clear x0 x1 x2 x3 x4 x5 hl0 g0 g1 hb1
   obtain ⟨x0, x1, x2, x3, x4, x5⟩ := cells6 hst0.box
   go_wp2_with fail
   refine (columns_any _ _ _ _ _ _ _).mono ?_
   rintro e w' ⟨rfl, rfl⟩
   clear x0 x1 x2 x3 x4 x5
   obtain ⟨ca, cc, hcol⟩ := cols_choose hc.g
   have hx4 := World.alloc_heap_new wc (.cells #[.int .i64 z.n, .slice A z.c.length kA, .slice B z.ids.length kB, .slice C z.g.length kC, .slice D z.r.length kD, .bool z.bad] 26)
   have hb4 := hbb.alloc hbb.size (.cells #[.int .i64 z.n, .slice A z.c.length kA, .slice B z.ids.length kB, .slice C z.g.length kC, .slice D z.r.length kD, .bool z.bad] 26)
   have hst4 := hst0.below (below_alloc wc (.cells #[.int .i64 z.n, .slice A z.c.length kA, .slice B z.ids.length kB, .slice C z.g.length kC, .slice D z.r.length kD, .bool z.bad] 26))
   have hs4 := World.size_alloc wc (.cells #[.int .i64 z.n, .slice A z.c.length kA, .slice B z.ids.length kB, .slice C z.g.length kC, .slice D z.r.length kD, .bool z.bad] 26)
   have hls := hst0.size
   have hlgb := ZB.lt hst0.out
   generalize wc.alloc (.cells #[.int .i64 z.n, .slice A z.c.length kA, .slice B z.ids.length kB, .slice C z.g.length kC, .slice D z.r.length kD, .bool z.bad] 26) = W4 at *
   clear hst0 hbb
   obtain ⟨bp, hbp⟩ : ∃ b, wc.heap.size = b := ⟨_, rfl⟩
   rw [hbp] at hx4 hs4 hls hlgb ⊢
   go_wp2_with fail
   refine (wpIn_wide (n := 5)).1 ?_
   have hbx4 : ZB W4 bp _ _ _ _ _ _ := hx4
   refine wpIn_rangeFunc_ownF rfl (by decide) (gf := 116) (lb := #[.pointer (some ⟨bp, 0, none⟩)]) rfl trivial (enters_of Tryz.func116 (by kernel_rfl) rfl)
    (columns_stops Fence.wide (5 - 1) trivial rfl (by decide) bp z.g.length z ca cc A B C D kA kB kC kD w W4 hz.len rfl hz.cols hc.ids (fun k hk => (hcol k hk).2) hb4 hx4)
    KB.trans (KB.put (by omega) (by omega)) (Below.refl _ _) (fun _ => rfl)
    (fun pre W => ((∃ (vi vg : Value) (vals : List Value), LSt w.heap.size gb #[.int .i64 z.n, .slice A z.c.length kA, .slice B z.ids.length kB, .slice C z.g.length kC, .slice D z.r.length kD, .bool z.bad] z vc vr W vi vg vals (pre.map fun k => z.ids.getD k.1 0) (pre.map fun k => (colZ z k.1).map plainU)) ∧ ZB W bp (.int .i64 z.n) (.slice A z.c.length kA) (.slice B z.ids.length kB) (.slice C z.g.length kC) (.slice D z.r.length kD) (.bool z.bad)) ∧ Below w.heap.size w W)
    (fun _ _ _ => False)
    (OwnFrom.and (Own.from (fun s A B row hs hg hr => by obtain ⟨⟨vi, vg, vals, h⟩, h2⟩ := hs; exact ⟨⟨vi, vg, vals, h.own' hg hr⟩, heap_own h2 hg hr⟩) _) (ownFrom_below (Nat.le_refl _) (by omega)))
    (fun _ _ _ _ _ hs _ _ => hs)
    ⟨⟨⟨_, _, _, hst4⟩, hbx4⟩, hb4⟩ ?a1 ?assign ?body ?done ?stop
   case assign =>
    intro l x W K hK
    unfold colV
    gi_wp2
    exact hK
   case body =>
    rintro l pre x W ⟨⟨⟨vi, vg, vals, hst⟩, hbx⟩, hB⟩ hlt
    have hxk := hcol x.1 x.2
    have hgx : z.g[x.1]? = some (colZ z x.1) := by unfold colZ; rw [List.getD_eq_getElem?_getD, List.getElem?_eq_getElem x.2, Option.getD_some]
    have hlen := (hz.colG x.1 _ hgx).2
    have hcm : (colZ z x.1).length ≤ maxLen := by unfold maxLen; omega
    have hpl0 := fun W1 (hb : Below w.heap.size w W1) => plain_any W1 (ca x.1) (colZ z x.1).length (cc x.1) (colZ z x.1) (hxk.1.row.below (Nat.le_refl _) hb) rfl (by omega) (hk.g _ (List.mem_of_getElem? hgx)).1 (hz.colNum x.1)
    have hgc := hz.cols
    have hlI : (pre.map fun k => z.ids.getD k.1 0).length ≤ 1073741825 := by rw [List.length_map]; omega
    have hlV : vals.length ≤ 1073741825 := by have h1 := hst.fl.len; simp only [List.length_cons, List.length_map] at h1; omega
    have hst1 := hst.below (below_alloc W (.cells #[.int .i64 (z.ids.getD x.1 0)] 3))
    have hw1 : Wrote (w.heap.size + 1 + 1) gb W _ := Wrote.of (below_alloc W (.cells #[.int .i64 (z.ids.getD x.1 0)] 3)) hst.size
    obtain ⟨x0, x1, x2, x3, x4, x5⟩ := cells6 hst.out
    clear hgx hxk hlen x0 x1 x3 x4 x5 hst hgc
    gi_wp2_with (gi_at_builtin; refine wpListIn_app1 cI 8 (.int .i64 0) 23 3 Tryz.underlying23 infoInt rfl rfl (.tmp 55) (.tmp 57) rfl (w.heap.size + 1 + 1) vi _ (z.ids.getD x.1 0) _ W.heap.size rfl rfl hst1.ids rfl rfl (cell_new0 W _ 3) (by omega) (by omega) hst1.size ?_; intro v5 w5 ho5 hg5 _; obtain ⟨A5, c5, hv5, _⟩ := ho5.lat; rw [List.length_append, List.length_map, List.length_singleton] at hv5; subst hv5; obtain ⟨kz, kst, kb⟩ := hst1.putIds ho5 hg5; have KK := Lib.hid (And.intro kst kb); clear kst kb ho5 hg5; obtain ⟨y0, y1, y2, y3, y4, y5⟩ := cells6 kz; have fr5 := (fun j => frozen_of_row w5 _ j _ _ kz))
    obtain ⟨kst, kb⟩ := KK.out
    have hw7 := hw1.trans kb
    clear kb kz KK y0 y1 y2 y3 y4 y5 fr5 hst1 hw1 x2 hlI
    generalize w5.setCell ⟨gb, 2, none⟩ (.slice A5 (pre.length + 1) c5) = W7 at *
    have hB7 : Below w.heap.size w W7 := hB.trans (hw7.below.mono (by omega))
    have hGl := kst.out.lt
    have q3 := (cells6 kst.out).2.2.2.1
    have hpl := hpl0 W7.drew hB7.drew
    refine wpIn_round_late (fun w' => w'.cell? ⟨gb, 3, none⟩ = some vg) [7] (by kernel_rfl) (by kernel_rfl) ?_ ?_
    ·rintro ⟨_, _, h⟩; exact h.elim
    refine lateT 0 (some 60) rfl rfl q3 ?_
    try simp only [Act.put, lA, lZ, lC]
    refine lateT 1 (some 61) rfl rfl q3 ?_
    try simp only [Act.put, lA, lZ, lC]
    refine lateT 2 (some 62) rfl rfl q3 ?_
    try simp only [Act.put, lA, lZ, lC]
    refine late_one (i := 3) rfl (by kernel_rfl) ?_
    intro K hK
    go_simp
    refine hpl.mono ?_
    rintro e w9 ⟨g9, rfl, hg9, hF9, hb9⟩
    have hc9 : Below W7.heap.size W7 w9 := (Below.refl _ W7).drew.trans hb9
    try show K _ _
    refine hK.out _ _ (Or.inr ((hc9.cell (p := ⟨gb, 3, none⟩) hGl).trans q3)) ?_
    clear hK K
    try simp only [Act.put, lA, lZ, lC]
    refine late_one (i := 4) rfl (by kernel_rfl) ?_
    intro K hK
    go_simp
    have hb10 := below_alloc w9 (.cells #[.slice (some ⟨g9, 0, none⟩) (colZ z x.1).length (colZ z x.1).length] 22)
    have hc10 := hc9.trans (hb10.mono hc9.size)
    try show K _ _
    refine hK.out _ _ (Or.inr ((hc10.cell (p := ⟨gb, 3, none⟩) hGl).trans q3)) ?_
    clear hK K
    try simp only [Act.put, lA, lZ, lC]
    refine late_one (i := 5) rfl (by kernel_rfl) ?_
    intro K hK
    have hA10 := kst.g.below hc10
    refine step_app1 cV 24 (.slice none 0 0) 24 22 Tryz.underlying24 infoLF rfl rfl _ _ rfl (w.heap.size + 1 + 1) vg vals (.slice (some ⟨g9, 0, none⟩) (colZ z x.1).length (colZ z x.1).length) (.slice (some ⟨g9, 0, none⟩) (colZ z x.1).length (colZ z x.1).length) w9.heap.size rfl rfl hA10 rfl rfl (cell_new0 w9 _ 22) (by omega) (by omega) (Nat.le_trans kst.size hc10.size) ?_
    intro v11 w11 ho11 hg11 _
    obtain ⟨A11, c11, hv11, _⟩ := ho11.lat
    rw [List.length_append, List.length_singleton] at hv11
    subst hv11
    obtain ⟨kz, kst, kb⟩ := kst.putCol hc10 ((hF9.own (by rw [List.length_map]) hg9 hcm).below hb10) ho11 hg11
    have KK := Lib.hid (And.intro kz (And.intro kst kb))
    clear kz kst kb ho11 hg11 hA10
    have p3 := (cells6 KK.out.1).2.2.2.1
    try show K _ _
    refine hK.out _ _ (Or.inr p3) ?_
    clear hK K
    try simp only [Act.put, lA, lZ, lC]
    refine lateT 6 (some 66) rfl rfl p3 ?_
    try simp only [Act.put, lA, lZ, lC]
    refine late_one (i := 7) rfl (by kernel_rfl) ?_
    intro K hK
    go_simp
    have hfr4 : ∀ j, w11.frozen? ⟨gb, j, none⟩ = false := fun j => frozen_of_row w11 _ j _ _ KK.out.1
    go_simp
    try show K _ _
    refine hK.out _ _ (Or.inl (by decide)) ?_
    clear hK K
    try simp only [Act.put, lA, lZ, lC]
    refine late_done (by kernel_rfl) ?_ _
    go_wp2_with fail
    obtain ⟨_, kst2, kb2⟩ := KK.out
    have hw := hw7.trans kb2
    have hzb := hw.zono bp _ hbx (by omega)
    have e1 : (pre.map fun k => z.ids.getD k.1 0) ++ [z.ids.getD x.1 0] = (pre ++ [x]).map fun k => z.ids.getD k.1 0 := by rw [List.map_append]; rfl
    have e2 : (pre.map fun k => (colZ z k.1).map plainU) ++ [(colZ z x.1).map plainU] = (pre ++ [x]).map fun k => (colZ z k.1).map plainU := by rw [List.map_append]; rfl
    rw [e1, e2] at kst2
    exact ⟨hw.others, ⟨hw.below.mono (by omega), fun _ => hzb.trans hbx.symm⟩, ⟨⟨_, _, _, kst2⟩, hzb⟩, hB.trans (hw.below.mono (by omega))⟩
   case done =>
    rintro D' ys W hD rfl ⟨⟨⟨vi, vg, vals, hst⟩, hbx⟩, hB⟩ hK
    have hlD : w.heap.size ≤ D' := by omega
    rw [finR_ids z hz.len, finR_cols z] at hst
    have hL0 := LiftAt.zero z next
    have hok := HOK.out
    obtain ⟨x0, x1, x2, x3, x4, x5⟩ := cells6 hst.box
    clear x0 x1 x2 x3 x5 hcol hx4 hbx4 hst4 hb4 hs4 hbp hbx
    have hlr := hz.lenR
    go_wp2_with fail
    clear x4
    go_loopw [9, 71] (fun tv kk wr => ∃ (k : Nat) (vi vg : Value) (vals : List Value) (ids : List Int) (g : List (List Nat)) (a : Int), k ≤ z.r.length ∧ kk = .int .i64 (k : Nat) ∧ tv = .int .i64 a ∧ LiftAt z next k ids g a ∧ LSt w.heap.size gb #[.int .i64 z.n, .slice A z.c.length kA, .slice B z.ids.length kB, .slice C z.g.length kC, .slice D z.r.length kD, .bool z.bad] z vc vr wr vi vg vals ids g ∧ wr.heap[D']? = some (.deferred (some [])) ∧ Below w.heap.size w wr) (fun _ kk _ => z.r.length - (intOf kk).toNat)
    case atStart => exact ⟨0, _, _, _, _, _, _, Nat.zero_le _, rfl, rfl, hL0, hst, hK, hB⟩
    case round =>
     clear hst hK hB hL0
     obtain ⟨k, vi, vg, vals, ids, g, a, hkr, rfl, rfl, hL, hst, hK, hB⟩ := hrel
     by_cases hlt : k < z.r.length
     ·have hlt' : (k : Int) < (z.r.length : Int) := by omega
      obtain ⟨u, hu⟩ := get_some z.r k hlt
      obtain ⟨br, or_, rfl, hbr, hcr⟩ := hc.r.at hB k u hu
      have hcr' : wr.cell? ⟨br, or_ + k, none⟩ = some (.float .f64 u) := hcr
      have hu64 := hk.r.at k u hu
      have hum := List.mem_of_getElem? hu
      rcases order_zero u hu64 (hz.numR u hum) with ⟨h1, _⟩ | ⟨_, h1, ho⟩ | ⟨_, hpos, ho⟩
      ·rw [hz.pos u hum] at h1
       cases h1
      ·have hLn := Lib.hid (liftT_skip hL hu (sig_of_fz h1))
       clear hL hu hcr h1
       go_wp2_with fail
       go_roundw
       case rel => exact ⟨k + 1, _, _, _, _, _, _, by omega, by go_num, rfl, hLn.out, hst, hK, hB⟩
       case measure => simp [intOf]; omega
      ·clear hcr
       by_cases hover : 1073741824 < a
       ·have hbd := bad_any wr _ z ⟨A, B, C, some ⟨br, or_, none⟩, kA, kB, kC, kD, rfl, hc.below hB⟩ hk
        unfold zval lostV at hbd
        have hov := Lib.hid (lift_over hz hok hL hu hpos hover)
        have hres : ZB wr (w.heap.size + 1) _ _ _ _ _ _ := hst.res
        obtain ⟨x0, x1, x2, x3, x4, x5⟩ := cells6 hst.box
        clear hL hu hpos
        go_wp2_with fail
        refine hbd.mono ?_
        rintro e w2 ⟨rfl, hb2⟩
        have k1 := hres.below hb2
        have hK2 := (hb2.block D' (Array.getElem?_eq_some_iff.1 hK).1).trans hK
        have hb3 := hB.trans (hb2.mono hB.size)
        clear x0 x1 x2 x3 x4 x5 hbd
        obtain ⟨y0, y1, y2, y3, y4, y5⟩ := cells6 k1
        have hfr := fun j => frozen_of_row w2 _ j _ _ k1
        go_wp2_with fail
        obtain ⟨q1, q2⟩ := set6 k1 (.int .i64 (sizeD z)) (.slice none 0 0) (.slice none 0 0) (.slice none 0 0) (.slice none 0 0) (.bool true)
        have hneD : w.heap.size + 1 ≠ D' := fun e => by rw [e] at k1; have := k1.symm.trans hK2; cases this
        have hK3 := (q2.block D' (Array.getElem?_eq_some_iff.1 hK2).1 (fun e => hneD (Option.some.inj e).symm)).trans hK2
        have q3 := (World.putObj_heap_other (o := .deferred none) hneD).trans q1
        obtain ⟨c0, c1, c2, c3, c4, c5⟩ := cells6 q3
        refine ⟨by simp, .inl ⟨_, _, rfl, run_takeDeferred hK3, ?_⟩⟩
        refine ⟨.tuple #[.agg #[.int .i64 (sizeD z), .slice none 0 0, .slice none 0 0, .slice none 0 0, .slice none 0 0, .bool true], .int .i64 next], by simp [results, Tryz.results43, go_sem, c0, c1, c2, c3, c4, c5], ?_⟩
        rw [hov.out]
        exact ⟨_, rfl, lost_own _ _ _, (hb3.trans (below_row q2 (by omega) hb3.size)).trans (belowK_b (w := w) (Nat.le_refl _) _ D' _ _ hlD hK3 rfl rfl)⟩
       ·have hover' : decide (1073741824 < a) = false := decide_eq_false hover
        replace hover : a ≤ 1073741824 := by omega
        have hR := FlB.made wr z.n.toNat
        have hmk := make_fltsZ z.n (by omega) (by omega) wr
        have hbm := below_alloc wr (.cells (madeCells #[.float .f64 0] z.n.toNat) 43)
        obtain ⟨x0, x1, x2, x3, x4, x5⟩ := cells6 hst.box
        clear x1 x2 x3 x4 x5
        go_upto_region 17 with fail
        clear x0 hmk
        have hsm := World.size_alloc wr (.cells (madeCells #[.float .f64 0] z.n.toNat) 43)
        generalize wr.alloc (.cells (madeCells #[.float .f64 0] z.n.toNat) 43) = W1 at *
        have hkN : k < z.n.toNat := by omega
        obtain ⟨⟨cv, hc0⟩, hcf⟩ := FlB.at hR hkN
        obtain ⟨hR2, hg2⟩ := hR.put (by rw [List.length_replicate]) hkN u
        have hkN' : (k : Int) < (z.n.toNat : Int) := by omega
        go_upto_region 18 with fail
        have hb2 : Below wr.heap.size wr (W1.setCell ⟨wr.heap.size, k, none⟩ (.float .f64 u)) := hbm.trans (below_row hg2 (Nat.le_refl _) hbm.size)
        clear hc0 hcf hR hbm hg2 hsm
        generalize W1.setCell ⟨wr.heap.size, k, none⟩ (.float .f64 u) = W2 at *
        clear W1
        have hF2 : FO wr.heap.size W2 (.slice (some ⟨wr.heap.size, 0, none⟩) z.n.toNat z.n.toNat) (unitL z.n.toNat k u) := hR2.own (by rw [List.length_set, List.length_replicate]) (Nat.le_refl _) (by unfold maxLen; omega)
        have hst2 := hst.below hb2
        have hlen := hL.len
        have hcols := hz.cols
        have hzl := hz.len
        have hvl := hst.col
        have hLN := Lib.hid (liftT_more hL hu (sig_ne_fz hpos) hover)
        have hw1 : Wrote (w.heap.size + 1 + 1) gb wr W2 := Wrote.of hb2 hst.size
        have hst3 := hst2.below (below_alloc W2 (.cells #[.int .i64 a] 3))
        have hw3 := hw1.trans (Wrote.of (below_alloc W2 (.cells #[.int .i64 a] 3)) hst2.size)
        have hfl3 := (hst.fl.snoc hb2 hF2 hst.size).below (below_alloc W2 (.cells #[.int .i64 a] 3))
        obtain ⟨x0, x1, x2, x3, x4, x5⟩ := cells6 hst2.out
        clear x0 x1 x3 x4 x5 hu hL
        have hil : ids.length ≤ 1073742081 := by omega
        have hvl2 : vals.length ≤ 1073742081 := by omega
        have ha0 : 0 ≤ a := by omega
        clear hzl hvl hlen hcols
        go_upto_region 19 with (at_builtin; refine wpList_app1 cI 8 (.int .i64 0) 23 3 Tryz.underlying23 infoInt rfl rfl (.tmp 91) (.tmp 93) rfl (w.heap.size + 1 + 1) vi ids a _ W2.heap.size rfl rfl hst3.ids rfl rfl (cell_new0 W2 _ 3) (by omega) (by omega) hst3.size ?_; intro v5 w5 ho5 hg5 _; obtain ⟨A5, c5, hv5, _⟩ := ho5.lat; rw [List.length_append, List.length_singleton] at hv5; subst hv5; obtain ⟨kz, kst, kb⟩ := hst3.putIds ho5 hg5; have hfl5 := (hfl3.far hg5 hst3.ids.typed (by decide)).far (kz.set2 (.slice A5 (ids.length + 1) c5)).2 (fun g e => by cases e; exact kz.typed) (by decide); have KK := Lib.hid (And.intro kst (And.intro kb hfl5)); clear kst kb ho5 hg5 hfl5; obtain ⟨y0, y1, y2, y3, y4, y5⟩ := cells6 kz; have fr5 := (fun j => frozen_of_row w5 _ j _ _ kz))
        obtain ⟨kst, kb, hfl6⟩ := KK.out
        have hw5 := hw3.trans kb
        clear kb kz KK y0 y1 y2 y3 y4 y5 fr5 hst3 hw3 x2 hfl3 hw1 hst2 hb2 hF2 hR2 hst
        generalize w5.setCell ⟨gb, 2, none⟩ (.slice A5 (ids.length + 1) c5) = W6 at *
        have hst7 := kst.below (below_alloc W6 (.cells #[.slice (some ⟨wr.heap.size, 0, none⟩) z.n.toNat z.n.toNat] 22))
        have hfl7 := hfl6.below (below_alloc W6 (.cells #[.slice (some ⟨wr.heap.size, 0, none⟩) z.n.toNat z.n.toNat] 22))
        obtain ⟨x0, x1, x2, x3, x4, x5⟩ := cells6 kst.out
        clear x0 x1 x2 x4 x5
        go_wp2_with (at_builtin; refine wpList_app1 cV 24 (.slice none 0 0) 24 22 Tryz.underlying24 infoLF rfl rfl (.tmp 97) (.tmp 99) rfl (w.heap.size + 1 + 1) vg vals (.slice (some ⟨wr.heap.size, 0, none⟩) z.n.toNat z.n.toNat) (.slice (some ⟨wr.heap.size, 0, none⟩) z.n.toNat z.n.toNat) W6.heap.size rfl rfl hst7.g rfl rfl (cell_new0 W6 _ 22) (by omega) (by omega) hst7.size ?_; intro v8 w8 ho8 hg8 _; obtain ⟨A8, c8, hv8, _⟩ := ho8.lat; rw [List.length_append, List.length_singleton] at hv8; subst hv8; obtain ⟨kz, kst8, kb⟩ := kst.putCol2 (below_alloc _ _) hfl7 ho8 hg8; have KK := Lib.hid (And.intro kst8 kb); clear kst8 kb ho8 hg8; obtain ⟨y0, y1, y2, y3, y4, y5⟩ := cells6 kz; have fr8 := (fun j => frozen_of_row w8 _ j _ _ kz))
        obtain ⟨kst8, kb⟩ := KK.out
        have hw := hw5.trans kb
        go_roundw
        case rel => exact ⟨k + 1, _, _, _, _, _, a + 1, by omega, by go_num, rfl, hLN.out, kst8, hw.others.same D' _ hK rfl, hB.trans (hw.below.mono (by omega))⟩
        case measure => simp [intOf]; omega
     ·obtain rfl : k = z.r.length := by omega
      have hlt' : decide (((z.r.length : Nat) : Int) < (z.r.length : Nat)) = false := by simp
      have hend := Lib.hid (lift_end hz hok hL)
      obtain ⟨Ac, cc', Ar, cr', Ai, ci', Ag, cg', rfl, rfl, rfl, rfl⟩ := hst.slices
      have hres : ZB wr (w.heap.size + 1) _ _ _ _ _ _ := hst.res
      obtain ⟨x0, x1, x2, x3, x4, x5⟩ := cells6 hst.out
      obtain ⟨y0, y1, y2, y3, y4, y5⟩ := cells6 hres
      have hfr := fun j => frozen_of_row wr _ j _ _ hres
      clear hL
      go_wp2_with fail
      obtain ⟨q1, q2⟩ := set6 hres (.int .i64 z.n) (.slice Ac z.c.length cc') (.slice Ai ids.length ci') (.slice Ag g.length cg') (.slice Ar z.n.toNat cr') (.bool false)
      have hneD : w.heap.size + 1 ≠ D' := fun e => by rw [e] at hres; have := hres.symm.trans hK; cases this
      have hK3 := (q2.block D' (Array.getElem?_eq_some_iff.1 hK).1 (fun e => hneD (Option.some.inj e).symm)).trans hK
      have q3 := (World.putObj_heap_other (o := .deferred none) hneD).trans q1
      obtain ⟨c0, c1, c2, c3, c4, c5⟩ := cells6 q3
      refine ⟨by simp, .inl ⟨_, _, rfl, run_takeDeferred hK3, ?_⟩⟩
      refine ⟨.tuple #[.agg #[.int .i64 z.n, .slice Ac z.c.length cc', .slice Ai ids.length ci', .slice Ag g.length cg', .slice Ar z.n.toNat cr', .bool false], .int .i64 a], by simp [results, Tryz.results43, go_sem, c0, c1, c2, c3, c4, c5], ?_⟩
      rw [hend.out]
      have hfin := hst.fin q2 hres.typed hK3 rfl (o' := .deferred none)
      exact ⟨_, rfl, ZOwn.low ⟨_, _, _, _, vals, rfl, hfin⟩ (by omega), (hB.trans (below_row q2 (by omega) hB.size)).trans (belowK_b (w := w) (Nat.le_refl _) _ D' _ _ hlD hK3 rfl rfl)⟩
   case stop =>
    rintro D c pre W _ _ h _
    exact h.elim
theorem Lift_any (w : World) (v : Value) (z : ZD) (next : Int) (h : ZIs w v z) (hk : ZOk z) (hn1 : next ≤ 9223372036854775807) :
  Calls Tryz.prog 43 #[v, .int .i64 next] w fun e w' => TellsLift w (liftD z next) e w' := by
 obtain ⟨A, B, C, D, kA, kB, kC, kD, rfl, hc⟩ := h
 cases hok : liftOk z next with
 | false =>
  have h1 := lift_no w A B C D kA kB kC kD z next hc hk hok
  unfold liftD
  rw [hok]
  exact h1
 | true =>
  have h2 := hok
  unfold liftOk at h2
  simp only [Bool.and_eq_true, decide_eq_true_eq, Bool.or_eq_true, beq_iff_eq] at h2
  obtain ⟨⟨hg, h0⟩, hl⟩ := h2
  refine lift_yes w A B C D kA kB kC kD z next hc hk ((goodD_iff z).1 hg) h0 hn1 ?_
  rcases hl with h | h
  ·exact Or.inl h
  ·by_cases e : z.ids.length = 0
   ·exact Or.inl e
   ·exact Or.inr ⟨e, h⟩
end Go.Proofs.YtpfbgenefjhcjaaGreatDoor
