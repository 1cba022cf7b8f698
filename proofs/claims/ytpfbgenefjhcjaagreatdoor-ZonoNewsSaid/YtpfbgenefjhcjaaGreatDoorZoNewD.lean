/- New as data; what zono.New has laid, under way. -/
import Derived.Test.YtpfbgenefjhcjaaGreatDoorZoPln2
import Derived.Test.YtpfbgenefjhcjaaGreatDoorZoRefLow
namespace Go.Proofs.YtpfbgenefjhcjaaGreatDoor
set_option linter.unusedVariables false
set_option linter.unusedSimpArgs false
open Go Go.RowKit
set_option maxRecDepth 100000
section
variable {P : Program} {ops : Array Oper} {Q : Exit → Act → World → Prop} {md : Region.Mode} {S : World → Prop} {lates : List Nat}
/-- Three operations may come up. -/
theorem late_three {i j l : Nat} {oi oj ol : Oper} {n : Nat} {listed : Array Bool} {a : Act} {w : World} (hi : ops[i]? = some oi) (hj : ops[j]? = some oj) (hl : ops[l]? = some ol) (hr : Region.ready md ops listed = [i, j, l])
    (h1 : ∀ K' : Act → World → Prop, Shut (∀ a w, i ∈ lates ∨ S w → wpLate P md ops Q S lates n (listed.setIfInBounds i true) a w → K' a w) → if Region.wanted oi (yielded ops a.tmps) = true then Oper.wp P oi a w K' Q else K' (a.put oi.dst undef) w)
    (h2 : ∀ K' : Act → World → Prop, Shut (∀ a w, j ∈ lates ∨ S w → wpLate P md ops Q S lates n (listed.setIfInBounds j true) a w → K' a w) → if Region.wanted oj (yielded ops a.tmps) = true then Oper.wp P oj a w K' Q else K' (a.put oj.dst undef) w)
    (h3 : ∀ K' : Act → World → Prop, Shut (∀ a w, l ∈ lates ∨ S w → wpLate P md ops Q S lates n (listed.setIfInBounds l true) a w → K' a w) → if Region.wanted ol (yielded ops a.tmps) = true then Oper.wp P ol a w K' Q else K' (a.put ol.dst undef) w) :
    wpLate P md ops Q S lates (n + 1) listed a w := by
  refine ⟨fun h0 => (by rw [hr] at h0; cases h0), fun k hk => ?_⟩
  rw [hr] at hk
  rcases List.mem_cons.1 hk with rfl | hk
  · exact wpOp_step hi (fun K' hK => h1 K' (show Shut _ from fun a w h1 h2 => hK a w ⟨h1, h2⟩))
  · rcases List.mem_cons.1 hk with rfl | hk
    · exact wpOp_step hj (fun K' hK => h2 K' (show Shut _ from fun a w h1 h2 => hK a w ⟨h1, h2⟩))
    · obtain rfl : k = l := by simpa using hk
      exact wpOp_step hl (fun K' hK => h3 K' (show Shut _ from fun a w h1 h2 => hK a w ⟨h1, h2⟩))
end
def idsN (k : Nat) : List Int := (List.range k).map fun (i : Nat) => (i : Int)
theorem idsN_succ (k : Nat) : idsN (k + 1) = idsN k ++ [(k : Int)] := by
  unfold idsN
  rw [List.range_succ, List.map_append]
  rfl
theorem idsN_length (k : Nat) : (idsN k).length = k := by
  unfold idsN
  rw [List.length_map, List.length_range]
def newZ (c : List Nat) (g : List (List Nat)) : ZD := ⟨(c.length : Int), c.map plainU, idsN g.length, g.map fun g => g.map plainU, List.replicate c.length 0, false⟩
def newD (c : List Nat) (g : List (List Nat)) : ZD := if goodD (newZ c g) then newZ c g else lostZ 0
/-- Columns, each made plain. -/
structure PlainG (gs gs' : List (List Nat)) : Prop where
  len : gs'.length = gs.length
  each : ∀ (j : Nat) (u v : List Nat), gs[j]? = some u → gs'[j]? = some v → PlainL u v
theorem PlainG.nil : PlainG [] [] := ⟨rfl, fun j u v h => by simp at h⟩
theorem PlainG.snoc {us vs : List (List Nat)} {u v : List Nat} (h : PlainG us vs) (hr : PlainL u v) : PlainG (us ++ [u]) (vs ++ [v]) := by
  refine ⟨by rw [List.length_append, List.length_append, h.len]; rfl, fun j a b ha hb => ?_⟩
  by_cases hj : j < us.length
  · rw [List.getElem?_append_left hj] at ha
    rw [List.getElem?_append_left (by rw [h.len]; exact hj)] at hb
    exact h.each j a b ha hb
  · have hl := (List.getElem?_eq_some_iff.1 ha).1
    rw [List.length_append, List.length_singleton] at hl
    obtain rfl : j = us.length := by omega
    rw [List.getElem?_append_right (Nat.le_refl _), Nat.sub_self] at ha
    rw [List.getElem?_append_right (by rw [h.len]; exact Nat.le_refl _), h.len, Nat.sub_self] at hb
    cases ha
    cases hb
    exact hr
theorem plain_map {us : List Nat} : ∀ (n : Int), rowD (us.map plainU) n = rowD us n := fun n => by
  unfold rowD
  rw [List.length_map, List.all_map]
  congr 1
  congr 1
  funext u
  show isNum (plainU u) = isNum u
  unfold plainU
  by_cases h : sig u = 0
  · rw [if_pos h]
    unfold sig at h
    unfold isNum
    by_cases he : fexp u = 0
    · rw [he]; decide
    · rw [if_neg he] at h
      omega
  · rw [if_neg h]
def newR (c : List Nat) (g : List (List Nat)) : ZD := ⟨(c.length : Int), c, idsN g.length, g, List.replicate c.length 0, false⟩
theorem getD_some {α : Type} {l : List α} {j : Nat} {x d : α} (h : l[j]? = some x) : l.getD j d = x := by rw [List.getD_eq_getElem?_getD, h, Option.getD_some]
/-- Whether it is good hangs on its rows alone. -/
theorem newR_good {c c' : List Nat} {g g' : List (List Nat)} (hl : c'.length = c.length) (hc : ∀ n, rowD c' n = rowD c n) (hgl : g'.length = g.length) (hg : ∀ (j : Nat) (u v : List Nat), g[j]? = some u → g'[j]? = some v → ∀ n, rowD v n = rowD u n) : goodD (newR c' g') = goodD (newR c g) := by
  unfold goodD headD newR
  simp only [hl, hc, hgl, idsN_length, List.length_replicate]
  congr 1
  refine Bool.eq_iff_iff.2 ?_
  rw [List.all_eq_true, List.all_eq_true]
  have key : ∀ k, k ∈ List.range g.length → colOk ⟨(c.length : Int), c', idsN g.length, g', List.replicate c.length 0, false⟩ k = colOk ⟨(c.length : Int), c, idsN g.length, g, List.replicate c.length 0, false⟩ k := fun k hk => by
    have hk' := List.mem_range.1 hk
    obtain ⟨u, hu⟩ := get_some g k hk'
    obtain ⟨v, hv⟩ := get_some g' k (by rw [hgl]; exact hk')
    unfold colOk
    simp only
    rw [getD_some hu, getD_some hv, hg k u v hu hv]
  exact ⟨fun h k hk => by rw [← key k hk]; exact h k hk, fun h k hk => by rw [key k hk]; exact h k hk⟩
theorem newZ_eq (c : List Nat) (g : List (List Nat)) : newZ c g = newR (c.map plainU) (g.map fun g => g.map plainU) := by
  unfold newZ newR
  rw [List.length_map, List.length_map]
theorem new_good {c c' : List Nat} {g g' : List (List Nat)} (hc : PlainL c c') (hg : PlainG g g') : goodD (newR c' g') = goodD (newZ c g) := by
  rw [newZ_eq]
  have h1 : goodD (newR c' g') = goodD (newR c g) := newR_good hc.len hc.row hg.len fun j u v hu hv => (hg.each j u v hu hv).row
  have h2 : goodD (newR (c.map plainU) (g.map fun g => g.map plainU)) = goodD (newR c g) := newR_good (List.length_map _) (plain_map) (List.length_map _) fun j u v hu hv => by
    rw [List.getElem?_map, hu] at hv
    cases hv
    exact plain_map
  rw [h1, h2]
theorem new_eq {c c' : List Nat} {g g' : List (List Nat)} (hc : PlainL c c') (hg : PlainG g g') (hgd : goodD (newZ c g) = true) : newR c' g' = newZ c g := by
  have hz := (goodD_iff _).1 hgd
  have e1 : c' = c.map plainU := hc.eq fun u hu => by
    have h1 : rowD (c.map plainU) (c.length : Int) = true := hz.c
    rw [plain_map] at h1
    exact ((rowD_iff _ _).1 h1).1 u hu
  have e2 : g' = g.map fun g => g.map plainU := by
    refine List.ext_getElem? fun j => ?_
    rw [List.getElem?_map]
    by_cases hj : j < g.length
    · obtain ⟨u, hu⟩ := get_some g j hj
      obtain ⟨v, hv⟩ := get_some g' j (by rw [hg.len]; exact hj)
      rw [hu, hv]
      have h1 := hz.colG j (u.map plainU) (by show (g.map fun g => g.map plainU)[j]? = _; rw [List.getElem?_map, hu]; rfl)
      have h2 := (rowD_iff _ _).2 h1
      rw [plain_map] at h2
      rw [(hg.each j u v hu hv).eq fun x hx => ((rowD_iff _ _).1 h2).1 x hx]
      rfl
    · rw [List.getElem?_eq_none (by rw [hg.len]; omega), List.getElem?_eq_none (by omega)]
      rfl
  rw [e1, e2, newZ_eq]
theorem newR_ok {c : List Nat} {g : List (List Nat)} (hc : Small c) (lc : c.length ≤ MAXF) (hg : ∀ u ∈ g, Small u ∧ u.length ≤ MAXF) (lg : g.length ≤ MAXG) : ZOk (newR c g) := by
  refine ⟨hc, fun u hu => by rw [List.eq_of_mem_replicate hu]; decide, hg, lc, ?_, ?_, lg, ?_, ?_, fun i hi => ?_⟩
  · show (List.replicate c.length 0).length ≤ MAXF
    rw [List.length_replicate]
    exact lc
  · show (idsN g.length).length ≤ MAXF
    rw [idsN_length]
    unfold MAXG at lg
    unfold MAXF
    omega
  · show -9223372036854775808 ≤ (c.length : Int)
    omega
  · show (c.length : Int) ≤ 9223372036854775807
    unfold MAXF at lc
    omega
  · change i ∈ idsN g.length at hi
    unfold idsN at hi
    obtain ⟨j, hj, rfl⟩ := List.mem_map.1 hi
    have := List.mem_range.1 hj
    unfold MAXG at lg
    omega
theorem PlainG.ok {gs gs' : List (List Nat)} (h : PlainG gs gs') (hg : ∀ u ∈ gs, Small u ∧ u.length ≤ MAXF) : ∀ u ∈ gs', Small u ∧ u.length ≤ MAXF := fun v hv => by
  obtain ⟨j, hj, rfl⟩ := List.mem_iff_getElem.1 hv
  obtain ⟨u, hu⟩ := get_some gs j (by rw [← h.len]; exact hj)
  have h1 := h.each j u _ hu (List.getElem?_eq_getElem hj)
  have h2 := hg u (List.mem_of_getElem? hu)
  exact ⟨h1.small h2.1, by rw [h1.len]; exact h2.2⟩
theorem newD_ok {c : List Nat} {g : List (List Nat)} (hc : Small c) (lc : c.length ≤ MAXF) (hg : ∀ u ∈ g, Small u ∧ u.length ≤ MAXF) (lg : g.length ≤ MAXG) : ZOk (newD c g) := by
  unfold newD
  split
  · rw [newZ_eq]
    refine newR_ok (fun u hu => ?_) (by rw [List.length_map]; exact lc) (fun u hu => ?_) (by rw [List.length_map]; exact lg)
    · obtain ⟨v, hv, rfl⟩ := List.mem_map.1 hu
      unfold plainU
      split
      · decide
      · exact hc v hv
    · obtain ⟨v, hv, rfl⟩ := List.mem_map.1 hu
      refine ⟨fun x hx => ?_, by rw [List.length_map]; exact (hg v hv).2⟩
      obtain ⟨y, hy, rfl⟩ := List.mem_map.1 hx
      unfold plainU
      split
      · decide
      · exact (hg v hv).1 y hy
  · exact ⟨fun u hu => (by simp [lostZ] at hu), fun u hu => (by simp [lostZ] at hu), fun u hu => (by simp [lostZ] at hu), Nat.zero_le _, Nat.zero_le _, Nat.zero_le _, Nat.zero_le _, by decide, by decide, fun i hi => (by simp [lostZ] at hi)⟩
/-- What New has laid, under way (W0: the world behind which all of it lies). -/
structure NSt (W0 : World) (gb : Nat) (n : Int) (vc vr : Value) (cs rs : List Nat) (W : World) (vi vg : Value) (vals : List Value) (ids : List Int) (g : List (List Nat)) : Prop where
  bel : Below W0.heap.size W0 W
  out : ZB W gb (.int .i64 n) vc vi vg vr (.bool false)
  fl : FOs W0.heap.size W (vc :: vr :: vals) (cs :: rs :: g)
  ids : OwnG (fun x => [cI x]) 3 1 W W0.heap.size vi ids
  g : OwnG (fun x => [cV x]) 22 1 W W0.heap.size vg vals
  lo : W0.heap.size ≤ gb
section
variable {W0 : World} {gb : Nat} {n : Int} {vc vr : Value} {cs rs : List Nat} {W W1 W2 : World} {vi vg vi' vg' v : Value} {vals : List Value} {ids ids' : List Int} {g : List (List Nat)} {us : List Nat}
theorem NSt.b (h : NSt W0 gb n vc vr cs rs W vi vg vals ids g) (hb : Below W.heap.size W W1) : NSt W0 gb n vc vr cs rs W1 vi vg vals ids g :=
  ⟨h.bel.trans (hb.mono h.bel.size), h.out.below hb, h.fl.below hb, h.ids.below hb, h.g.below hb, h.lo⟩
theorem NSt.size (h : NSt W0 gb n vc vr cs rs W vi vg vals ids g) : W0.heap.size ≤ W.heap.size := h.bel.size
theorem NSt.putIds (h : NSt W0 gb n vc vr cs rs W vi vg vals ids g) (ho : OwnG (fun x => [cI x]) 3 1 W2 W0.heap.size vi' ids') (hg : W.grownBy W2 vi.ownBlock) :
    ZB W2 gb (.int .i64 n) vc vi vg vr (.bool false) ∧ NSt W0 gb n vc vr cs rs (W2.setCell ⟨gb, 2, none⟩ vi') vi' vg vals ids' g := by
  have ht := h.ids.typed
  have k2 : ZB W2 gb _ _ _ _ _ _ := block_far h.out hg ht (by decide)
  obtain ⟨q1, q2⟩ := k2.set2 vi'
  have hz : ∀ k, some gb = some k → Typed W2 k 26 := fun k e => by cases e; exact k2.typed
  exact ⟨k2, (h.bel.trans (below_ownG h.ids hg h.size)).setCell (p := ⟨gb, 2, none⟩) h.lo vi', q1, (h.fl.far hg ht (by decide)).far q2 hz (by decide), ho.farR q2 hz (by decide), (h.g.farR hg ht (by decide)).farR q2 hz (by decide), h.lo⟩
theorem NSt.putCol (h : NSt W0 gb n vc vr cs rs W vi vg vals ids g) (hb : Below W.heap.size W W1) (hv : FO W.heap.size W1 v us) (ho : OwnG (fun x => [cV x]) 22 1 W2 W0.heap.size vg' (vals ++ [v])) (hg : W1.grownBy W2 vg.ownBlock) :
    ZB W2 gb (.int .i64 n) vc vi vg vr (.bool false) ∧ NSt W0 gb n vc vr cs rs (W2.setCell ⟨gb, 3, none⟩ vg') vi vg' (vals ++ [v]) ids (g ++ [us]) := by
  have h' := h.b hb
  have ht := h'.g.typed
  have k2 : ZB W2 gb _ _ _ _ _ _ := block_far h'.out hg ht (by decide)
  obtain ⟨q1, q2⟩ := k2.set3 vg'
  have hz : ∀ k, some gb = some k → Typed W2 k 26 := fun k e => by cases e; exact k2.typed
  exact ⟨k2, (h'.bel.trans (below_ownG h'.g hg h'.size)).setCell (p := ⟨gb, 3, none⟩) h.lo vg', q1, ((h.fl.snoc hb hv h.size).far hg ht (by decide)).far q2 hz (by decide), (h'.ids.farR hg ht (by decide)).farR q2 hz (by decide), ho.farR q2 hz (by decide), h.lo⟩
theorem NSt.col (h : NSt W0 gb n vc vr cs rs W vi vg vals ids g) : vals.length = g.length := by
  have := h.fl.len
  simp only [List.length_cons] at this
  omega
theorem NSt.slices (h : NSt W0 gb n vc vr cs rs W vi vg vals ids g) : ∃ Ac cc Ar cr Ai ci Ag cg, vc = .slice Ac cs.length cc ∧ vr = .slice Ar rs.length cr ∧ vi = .slice Ai ids.length ci ∧ vg = .slice Ag g.length cg := by
  obtain ⟨Ac, cc, h1, _⟩ := (h.fl.get (j := 0) rfl rfl).lat
  obtain ⟨Ar, cr, h2, _⟩ := (h.fl.get (j := 1) rfl rfl).lat
  obtain ⟨Ai, ci, h3, _⟩ := h.ids.lat
  obtain ⟨Ag, cg, h4, _⟩ := h.g.lat
  rw [h.col] at h4
  exact ⟨Ac, cc, Ar, cr, Ai, ci, Ag, cg, h1, h2, h3, h4⟩
theorem NSt.own (h : NSt W0 gb n vc vr cs rs W vi vg vals ids g) : ZOwnC W0.heap.size W ⟨n, cs, ids, g, rs, false⟩ vc vi vg vr vals := ⟨h.fl, h.ids, h.g⟩
/-- Another block is written: of zonotopes. -/
theorem NSt.farZ {b : Nat} (h : NSt W0 gb n vc vr cs rs W vi vg vals ids g) (hg : W.grownBy W1 (some b)) (hb : Typed W b 26) : ZOwnC W0.heap.size W1 ⟨n, cs, ids, g, rs, false⟩ vc vi vg vr vals := by
  have hz : ∀ k, some b = some k → Typed W k 26 := fun k e => by cases e; exact hb
  exact ⟨h.fl.far hg hz (by decide), h.ids.farR hg hz (by decide), h.g.farR hg hz (by decide)⟩
theorem NSt.start {gC gR nC nR : Nat} (hb : Below W0.heap.size W0 W) (out : ZB W gb (.int .i64 n) (.slice (some ⟨gC, 0, none⟩) nC nC) (.slice none 0 0) (.slice none 0 0) (.slice (some ⟨gR, 0, none⟩) nR nR) (.bool false)) (hC : FlB W gC nC cs) (lC : cs.length = nC) (mC : nC ≤ maxLen) (hR : FlB W gR nR rs) (lR : rs.length = nR) (mR : nR ≤ maxLen) (l1 : W0.heap.size ≤ gb) (l2 : W0.heap.size ≤ gC) (l3 : W0.heap.size ≤ gR) (hne : gC ≠ gR) :
    NSt W0 gb n (.slice (some ⟨gC, 0, none⟩) nC nC) (.slice (some ⟨gR, 0, none⟩) nR nR) cs rs W (.slice none 0 0) (.slice none 0 0) [] [] [] := by
  refine ⟨hb, out, ⟨rfl, fun j us hu => ?_, fun i j v v' g hij h1 h2 hg => ?_⟩, OwnG.nil _ _, OwnG.nil _ _, l1⟩
  · match j, hu with
    | 0, hu => cases hu; exact ⟨_, rfl, hC.own lC l2 mC⟩
    | 1, hu => cases hu; exact ⟨_, rfl, hR.own lR l3 mR⟩
    | (j + 2), hu => simp at hu
  · match i, j, hij, h1, h2 with
    | 0, 1, _, h1, h2 =>
      cases h1
      cases h2
      cases hg
      intro e
      exact hne (Option.some.inj e).symm
    | 0, (j + 2), _, _, h2 => simp at h2
    | 1, (j + 2), _, _, h2 => simp at h2
    | (i + 2), _, _, h1, _ => simp at h1
end
end Go.Proofs.YtpfbgenefjhcjaaGreatDoor
