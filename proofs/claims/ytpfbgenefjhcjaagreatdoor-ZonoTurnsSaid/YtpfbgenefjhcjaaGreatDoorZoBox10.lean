/- ambitref10.Box. -/
import Derived.Test.YtpfbgenefjhcjaaGreatDoorZoU
import Derived.Test.YtpfbgenefjhcjaaGreatDoorZoBoxD
import Derived.Test.YtpfbgenefjhcjaaGreatDoorPZoRct
namespace Go.Proofs.YtpfbgenefjhcjaaGreatDoor
set_option linter.unusedVariables false
set_option linter.unusedSimpArgs false
open Go Go.RowKit
attribute [local go_sem] Oper.semAt_some
set_option maxRecDepth 100000
def TellsBU (w : World) (y : ZD) (e : Ending) (w' : World) : Prop := ∃ v, e = .returned v ∧ UIs w' v y ∧ Below w.heap.size w w'
/-- What Box has laid, under way: its R grows. -/
structure BU (W0 : World) (gb : Nat) (n : Int) (vc : Value) (cs : List Nat) (W : World) (vr : Value) (r : List Nat) : Prop where
 bel : Below W0.heap.size W0 W
 out : UB W gb (.int .i64 n) vc (.slice none 0 0) (.slice none 0 0) vr (.bool false)
 c : OwnG (fun x => [cU x]) 46 1 W W0.heap.size vc cs
 r : OwnG (fun x => [cU x]) 46 1 W W0.heap.size vr r
 apart : ∀ g, vc.ownBlock = some g → vr.ownBlock ≠ some g
 lo : W0.heap.size ≤ gb
section
variable {W0 : World} {gb : Nat} {n : Int} {vc vr vr' : Value} {cs : List Nat} {W W1 W2 : World} {r r' : List Nat} {u : Nat}
theorem BU.b (h : BU W0 gb n vc cs W vr r) (hb : Below W.heap.size W W1) : BU W0 gb n vc cs W1 vr r :=
 ⟨h.bel.trans (hb.mono h.bel.size), h.out.below hb, h.c.below hb, h.r.below hb, h.apart, h.lo⟩
theorem BU.size (h : BU W0 gb n vc cs W vr r) : W0.heap.size ≤ W.heap.size := h.bel.size
theorem BU.putR (h : BU W0 gb n vc cs W vr r) (ho : OwnG (fun x => [cU x]) 46 1 W2 W0.heap.size vr' (r ++ [u])) (hg : W.grownBy W2 vr.ownBlock) (hn : vr'.ownBlock = vr.ownBlock ∨ vr'.ownBlock = some W.heap.size) :
  UB W2 gb (.int .i64 n) vc (.slice none 0 0) (.slice none 0 0) vr (.bool false) ∧ BU W0 gb n vc cs (W2.setCell ⟨gb, 4, none⟩ vr') vr' (r ++ [u]) := by
 have k2 : UB W2 gb _ _ _ _ _ _ := block_far h.out hg h.r.typed (by decide)
 have k3 : OwnG (fun x => [cU x]) 46 1 W2 W0.heap.size vc cs := h.c.kept hg (by
  cases hv : vc.ownBlock with
  | none => exact Or.inl rfl
  | some k => exact Or.inr fun e => h.apart k hv e.symm)
 obtain ⟨q1, q2⟩ := k2.set4 vr'
 have hz : ∀ k, some gb = some k → Typed W2 k 30 := fun k e => by cases e; exact k2.typed
 refine ⟨k2, ⟨(h.bel.trans (below_ownG h.r hg h.size)).setCell (p := ⟨gb, 4, none⟩) h.lo vr', q1, k3.farR q2 hz (by decide), ho.farR q2 hz (by decide), fun g hv e => ?_, h.lo⟩⟩
 rcases hn with hn | hn
 ·exact h.apart g hv (hn ▸ e)
 ·rw [hn] at e
  cases e
  have := (h.c.lt _ hv).2
  omega
theorem BU.slices (h : BU W0 gb n vc cs W vr r) : ∃ Ac cc Ar cr, vc = .slice Ac cs.length cc ∧ vr = .slice Ar r.length cr := by
 obtain ⟨Ac, cc, h3, _⟩ := h.c.lat
 obtain ⟨Ar, cr, h4, _⟩ := h.r.lat
 exact ⟨Ac, cc, Ar, cr, h3, h4⟩
theorem BU.farZ {b : Nat} (h : BU W0 gb n vc cs W vr r) (hg : W.grownBy W1 (some b)) (hb : Typed W b 30) :
  UIs W1 (.agg #[.int .i64 n, vc, .slice none 0 0, .slice none 0 0, vr, .bool false]) ⟨n, cs, [], [], r, false⟩ := by
 have hz : ∀ k, some b = some k → Typed W k 30 := fun k e => by cases e; exact hb
 obtain ⟨Ac, cc, e1, c1⟩ := (h.c.farR hg hz (by decide)).lat
 obtain ⟨Ar, cr, e2, r1⟩ := (h.r.farR hg hz (by decide)).lat
 subst e1 e2
 exact ⟨Ac, none, none, Ar, cc, 0, 0, cr, rfl, ⟨c1.row, R1.nil _ _ _, fun k g hg => (by simp at hg), r1.row, ⟨c1.len, c1.most, c1.nil⟩, ⟨Nat.le_refl _, Nat.zero_le _, fun _ => rfl⟩, ⟨Nat.le_refl _, Nat.zero_le _, fun _ => rfl⟩, ⟨r1.len, r1.most, r1.nil⟩⟩⟩
end
set_option maxHeartbeats 16000000 in
theorem Box10_any (w : World) (v : Value) (z : ZD) (h : UIs w v z) (hk : ZOk z) : Calls Tryz.prog 50 #[v] w fun e w' => TellsBU w (boxD z) e w' := by
 unfold TellsBU
 obtain ⟨A, B, C, D, kA, kB, kC, kD, rfl, hc⟩ := h
 obtain ⟨f0, f1, f2, f3⟩ := two_blocks w (.cells #[.int .i64 z.n, .slice A z.c.length kA, .slice B z.ids.length kB, .slice C z.g.length kC, .slice D z.r.length kD, .bool z.bad] 30) (.cells #[.int .i64 0, .slice none 0 0, .slice none 0 0, .slice none 0 0, .slice none 0 0, .bool false] 30)
 have hr := Reals_any _ _ z ⟨A, B, C, D, kA, kB, kC, kD, rfl, hc.below f3⟩ hk
 unfold zval at hr ⊢
 cases hgd : goodD z with
 | false =>
  go_enter Tryz.func50, Tryz.ntmps50
  go_wp2_with fail
  refine hr.mono ?_
  rintro e w1 (⟨hg', v', rfl, _, hb⟩ | ⟨_, rfl, hb⟩)
  ·rw [hgd] at hg'
   cases hg'
  unfold noReal
  have hb1 := f3.trans (hb.mono f3.size)
  rw [f2] at hb
  have hba := below_alloc w1 (.cells #[.int .i64 0, .slice none 0 0, .slice none 0 0, .slice none 0 0, .slice none 0 0] 61)
  have k0 : UB (w1.alloc (.cells #[.int .i64 0, .slice none 0 0, .slice none 0 0, .slice none 0 0, .slice none 0 0] 61)) w.heap.size _ _ _ _ _ _ := UB.below ((hb.block _ (by omega)).trans f0) hba
  have k1 : UB (w1.alloc (.cells #[.int .i64 0, .slice none 0 0, .slice none 0 0, .slice none 0 0, .slice none 0 0] 61)) (w.heap.size + 1) _ _ _ _ _ _ := UB.below ((hb.block _ (by omega)).trans f1) hba
  have kr := heap_alloc_new w1 (.cells #[.int .i64 0, .slice none 0 0, .slice none 0 0, .slice none 0 0, .slice none 0 0] 61)
  have hb2 := hb1.trans (hba.mono hb1.size)
  skip
  clear hr hb f0 f1 f2 f3 hb1 hba
  have HBAD := Lib.hid (box_no hgd)
  have hsz := Size10_any (w1.alloc (.cells #[.int .i64 0, .slice none 0 0, .slice none 0 0, .slice none 0 0, .slice none 0 0] 61)) _ z ⟨A, B, C, D, kA, kB, kC, kD, rfl, hc.below hb2⟩ hk
  unfold zval at hsz
  obtain ⟨x0, x1, x2, x3, x4, x5⟩ := k0.cells
  clear kr hgd
  go_wp2_with fail
  refine hsz.mono ?_
  rintro e w2 ⟨rfl, hb3⟩
  replace k1 := k1.below hb3
  replace hb2 := hb2.trans (hb3.mono hb2.size)
  have hlo := Lost10_any w2 (sizeD z)
  unfold lostV at hlo
  clear x0 x1 x2 x3 x4 x5 hb3 hsz k0
  go_wp2_with fail
  refine hlo.mono ?_
  rintro e w3 ⟨rfl, hb4⟩
  replace k1 := k1.below hb4
  replace hb2 := hb2.trans (hb4.mono hb2.size)
  clear hlo hb4
  obtain ⟨y0, y1, y2, y3, y4, y5⟩ := k1.cells
  have hfr := fun j => k1.frozen j
  go_wp2_with fail
  obtain ⟨q1, q2⟩ := k1.put (.int .i64 (sizeD z)) (.slice none 0 0) (.slice none 0 0) (.slice none 0 0) (.slice none 0 0) (.bool true)
  obtain ⟨c0, c1, c2, c3, c4, c5⟩ := q1.cells
  refine bodyPost_ret (v := .agg #[.int .i64 (sizeD z), .slice none 0 0, .slice none 0 0, .slice none 0 0, .slice none 0 0, .bool true]) (by simp [results, Tryz.results50, go_sem, c0, c1, c2, c3, c4, c5]) rfl ?_
  rw [HBAD.out]
  exact ⟨_, rfl, lostV_uis _ _, hb2.trans (below_row q2 (by omega) hb2.size)⟩
 | true =>
  have hz := (goodD_iff z).1 hgd
  have hN1 := hz.n1
  have hN2 := hz.n2
  go_enter Tryz.func50, Tryz.ntmps50
  go_wp2_with fail
  refine hr.mono ?_
  rintro e w1 (⟨_, v', rfl, ⟨A', B', C', D', kA', kB', kC', kD', rfl, hR⟩, hb⟩ | ⟨hg', rfl, hb⟩)
  rotate_left
  ·rw [hgd] at hg'
   cases hg'
  unfold rval
  have hb1 := f3.trans (hb.mono f3.size)
  rw [f2] at hb
  have hba := below_alloc w1 (.cells #[.int .i64 z.n, .slice A' z.c.length kA', .slice B' z.ids.length kB', .slice C' z.g.length kC', .slice D' z.r.length kD'] 61)
  have k0 : UB (w1.alloc (.cells #[.int .i64 z.n, .slice A' z.c.length kA', .slice B' z.ids.length kB', .slice C' z.g.length kC', .slice D' z.r.length kD'] 61)) w.heap.size _ _ _ _ _ _ := UB.below ((hb.block _ (by omega)).trans f0) hba
  have k1 : UB (w1.alloc (.cells #[.int .i64 z.n, .slice A' z.c.length kA', .slice B' z.ids.length kB', .slice C' z.g.length kC', .slice D' z.r.length kD'] 61)) (w.heap.size + 1) _ _ _ _ _ _ := UB.below ((hb.block _ (by omega)).trans f1) hba
  have kr := heap_alloc_new w1 (.cells #[.int .i64 z.n, .slice A' z.c.length kA', .slice B' z.ids.length kB', .slice C' z.g.length kC', .slice D' z.r.length kD'] 61)
  have hb2 := hb1.trans (hba.mono hb1.size)
  replace hR := hR.below hba
  clear hr hb f0 f1 f2 f3 hb1 hba
  go_upto_region 4 with fail
  generalize w1.alloc (.cells #[.int .i64 z.n, .slice A' z.c.length kA', .slice B' z.ids.length kB', .slice C' z.g.length kC', .slice D' z.r.length kD'] 61) = W at *
  generalize w1.heap.size = bR at *
  clear w1 hgd
  have hcW := hc.below hb2
  have hPl := fun w1 (hb : Below W.heap.size W w1) => plainAll_own w1 A z.c.length kA z.c (hcW.c.below (Nat.le_refl _) hb) hk.c rfl hk.lc
  go_cut [5] from 19 to 24 (fun v wx => ∃ (gb : Nat) (A4 : Option Addr) (c4 : Nat), v = .pointer (some ⟨gb, 0, none⟩) ∧ BU W gb z.n (.slice A4 z.c.length c4) (z.c.map plainU) wx (.slice none 0 0) [])
  case first =>
   have hS : ∀ W', Below W.heap.size W W' → (fun w' => w'.cell? ⟨w.heap.size, 0, none⟩ = some (.int .i64 z.n) ∧ w'.cell? ⟨w.heap.size, 1, none⟩ = some (.slice A z.c.length kA)) W' := fun W' hb => ⟨(k0.below hb).cells.1, (k0.below hb).cells.2.1⟩
   have hd := (Below.refl W.heap.size W).drew
   refine late_begin (fun w' => w'.cell? ⟨w.heap.size, 0, none⟩ = some (.int .i64 z.n) ∧ w'.cell? ⟨w.heap.size, 1, none⟩ = some (.slice A z.c.length kA)) [7] (by kernel_rfl) ?_
   refine late_take (i := 0) (v := ?_) (some 19) rfl rfl (by kernel_rfl) (by kernel_rfl) (by kernel_rfl) (by kernel_rfl) (fun _ _ _ h => h) (by kernel_rfl) (hS _ hd) ?_ ?_
   rotate_left
   ·(intro w hSw; (try dsimp only at hSw); go_simp; try rfl)
   try simp only [Act.put, List.setIfInBounds_toArray, List.set_cons_zero, List.set_cons_succ]
   refine late_take (i := 1) (v := ?_) (some 20) rfl rfl (by kernel_rfl) (by kernel_rfl) (by kernel_rfl) (by kernel_rfl) (fun _ _ _ h => h) (by kernel_rfl) (hS _ hd) ?_ ?_
   rotate_left
   ·(intro w hSw; (try dsimp only at hSw); go_simp; try rfl)
   try simp only [Act.put, List.setIfInBounds_toArray, List.set_cons_zero, List.set_cons_succ]
   refine late_take (i := 2) (v := ?_) (some 21) rfl rfl (by kernel_rfl) (by kernel_rfl) (by kernel_rfl) (by kernel_rfl) (fun _ _ _ h => h) (by kernel_rfl) (hS _ hd) ?_ ?_
   rotate_left
   ·(intro w hSw; (try dsimp only at hSw); go_simp; try rfl)
   try simp only [Act.put, List.setIfInBounds_toArray, List.set_cons_zero, List.set_cons_succ]
   refine late_take (i := 3) (v := ?_) (some 22) rfl rfl (by kernel_rfl) (by kernel_rfl) (by kernel_rfl) (by kernel_rfl) (fun _ _ _ h => h) (by kernel_rfl) (hS _ hd) ?_ ?_
   rotate_left
   ·(intro w hSw; (try dsimp only at hSw); go_simp; try rfl)
   try simp only [Act.put, List.setIfInBounds_toArray, List.set_cons_zero, List.set_cons_succ]
   refine late_both (i := 4) (j := 6) rfl rfl (by kernel_rfl) ?_ ?_
   ·intro K hK
    go_simp
    refine (hPl _ hd).mono ?_
    rintro e w4 ⟨v4, rfl, hT4, hb4⟩
    have hp := hd.trans (hb4.mono hd.size)
    obtain ⟨A4, c4, rfl, _⟩ := hT4.lat
    rw [List.length_map] at *
    try show K _ _
    refine hK.out _ _ (Or.inr (hS _ hp)) ?_
    clear hK K
    try simp only [Act.put, List.setIfInBounds_toArray, List.set_cons_zero, List.set_cons_succ]
    refine late_take (i := 5) (v := ?_) (some 24) rfl rfl (by kernel_rfl) (by kernel_rfl) (by kernel_rfl) (by kernel_rfl) (fun _ _ _ h => h) (by kernel_rfl) (hS _ hp) ?_ ?_
    rotate_left
    ·(intro w hSw; (try dsimp only at hSw); go_simp; try rfl)
    try simp only [Act.put, List.setIfInBounds_toArray, List.set_cons_zero, List.set_cons_succ]
    refine late_one (i := 6) rfl (by kernel_rfl) ?_
    intro K hK
    go_simp
    have hz0 : UB (w4.alloc (.cells #[.int .i64 0, .slice none 0 0, .slice none 0 0, .slice none 0 0, .slice none 0 0, .bool false] 30)) w4.heap.size _ _ _ _ _ _ := UB.new w4 _ _ _ _ _ _
    have hlo := hp.size
    have ha := hp.alloc hp.size (.cells #[.int .i64 0, .slice none 0 0, .slice none 0 0, .slice none 0 0, .slice none 0 0, .bool false] 30)
    replace hT4 := hT4.below (below_alloc w4 (.cells #[.int .i64 0, .slice none 0 0, .slice none 0 0, .slice none 0 0, .slice none 0 0, .bool false] 30))
    generalize w4.alloc (.cells #[.int .i64 0, .slice none 0 0, .slice none 0 0, .slice none 0 0, .slice none 0 0, .bool false] 30) = Wa at *
    generalize w4.heap.size = gb at *
    try show K _ _
    refine hK.out _ _ (Or.inr (hS _ ha)) ?_
    clear hK K
    try simp only [Act.put, List.setIfInBounds_toArray, List.set_cons_zero, List.set_cons_succ]
    refine late_one (i := 7) rfl (by kernel_rfl) ?_
    intro K hK
    obtain ⟨z0, z1, z2, z3, z4, z5⟩ := hz0.cells
    have hfr := fun j => hz0.frozen j
    go_simp
    try show K _ _
    refine hK.out _ _ (Or.inl (by decide)) ?_
    clear hK K
    try simp only [Act.put, List.setIfInBounds_toArray, List.set_cons_zero, List.set_cons_succ]
    refine late_done (by kernel_rfl) ?_ _
    go_wp2_with fail
    go_meet
    case rel =>
     obtain ⟨q1, q2⟩ := hz0.put (.int .i64 z.n) (.slice A4 z.c.length c4) (.slice none 0 0) (.slice none 0 0) (.slice none 0 0) (.bool false)
     exact ⟨_, _, _, rfl, ⟨ha.trans (below_row q2 hlo ha.size), q1, (hT4.lowB hd.size).farR q2 (fun k e => by cases e; exact hz0.typed) (by decide), OwnG.nil _ _, fun g _ e => (by cases e), hlo⟩⟩
   ·intro K hK
    go_simp
    have hz0 : UB (W.alloc (.cells #[.int .i64 0, .slice none 0 0, .slice none 0 0, .slice none 0 0, .slice none 0 0, .bool false] 30)).drew W.heap.size _ _ _ _ _ _ := UB.new W _ _ _ _ _ _
    have hlo := Nat.le_refl W.heap.size
    have ha : Below W.heap.size W (W.alloc (.cells #[.int .i64 0, .slice none 0 0, .slice none 0 0, .slice none 0 0, .slice none 0 0, .bool false] 30)).drew := ((Below.refl _ _).alloc (Nat.le_refl _) _).drew
    have haa : W.heap.size ≤ (W.alloc (.cells #[.int .i64 0, .slice none 0 0, .slice none 0 0, .slice none 0 0, .slice none 0 0, .bool false] 30)).drew.heap.size := ha.size
    generalize (W.alloc (.cells #[.int .i64 0, .slice none 0 0, .slice none 0 0, .slice none 0 0, .slice none 0 0, .bool false] 30)).drew = Wa at *
    try show K _ _
    refine hK.out _ _ (Or.inr (hS _ ha)) ?_
    clear hK K
    try simp only [Act.put, List.setIfInBounds_toArray, List.set_cons_zero, List.set_cons_succ]
    refine late_one (i := 4) rfl (by kernel_rfl) ?_
    intro K hK
    go_simp
    refine (hPl _ ha).mono ?_
    rintro e w4 ⟨v4, rfl, hT4, hb4⟩
    have hp := ha.trans (hb4.mono ha.size)
    obtain ⟨A4, c4, rfl, _⟩ := hT4.lat
    rw [List.length_map] at *
    replace hz0 := UB.below hz0 hb4
    try show K _ _
    refine hK.out _ _ (Or.inr (hS _ hp)) ?_
    clear hK K
    try simp only [Act.put, List.setIfInBounds_toArray, List.set_cons_zero, List.set_cons_succ]
    refine late_take (i := 5) (v := ?_) (some 24) rfl rfl (by kernel_rfl) (by kernel_rfl) (by kernel_rfl) (by kernel_rfl) (fun _ _ _ h => h) (by kernel_rfl) (hS _ hp) ?_ ?_
    rotate_left
    ·(intro w hSw; (try dsimp only at hSw); go_simp; try rfl)
    try simp only [Act.put, List.setIfInBounds_toArray, List.set_cons_zero, List.set_cons_succ]
    refine late_one (i := 7) rfl (by kernel_rfl) ?_
    intro K hK
    obtain ⟨z0, z1, z2, z3, z4, z5⟩ := hz0.cells
    have hfr := fun j => hz0.frozen j
    go_simp
    try show K _ _
    refine hK.out _ _ (Or.inl (by decide)) ?_
    clear hK K
    try simp only [Act.put, List.setIfInBounds_toArray, List.set_cons_zero, List.set_cons_succ]
    refine late_done (by kernel_rfl) ?_ _
    go_wp2_with fail
    go_meet
    case rel =>
     obtain ⟨q1, q2⟩ := hz0.put (.int .i64 z.n) (.slice A4 z.c.length c4) (.slice none 0 0) (.slice none 0 0) (.slice none 0 0) (.bool false)
     exact ⟨_, _, _, rfl, ⟨hp.trans (below_row q2 hlo hp.size), q1, (hT4.lowB ha.size).farR q2 (fun k e => by cases e; exact hz0.typed) (by decide), OwnG.nil _ _, fun g _ e => (by cases e), hlo⟩⟩
  case rest =>
   obtain ⟨gb, A4, c4, rfl, hU⟩ := hcut
   clear hPl
   go_wp2_with fail
   go_loopw [6] (fun kk wr => ∃ (k : Nat) (vr : Value) (rs : List Nat), k ≤ z.n.toNat ∧ kk = .int .i64 (k : Nat) ∧ boxT z k = some rs ∧ BU W gb z.n (.slice A4 z.c.length c4) (z.c.map plainU) wr vr rs) (fun kk _ => z.n.toNat - (intOf kk).toNat)
   case atStart => exact ⟨0, _, [], Nat.zero_le _, rfl, rfl, hU⟩
   case round =>
    obtain ⟨k, vr, rs, hkl, rfl, hT, hst⟩ := hrel
    clear hU
    have hTl := boxT_len hT
    obtain ⟨r0, r1, r2, r3, r4⟩ := cells5 ((hst.bel.block _ (Array.getElem?_eq_some_iff.1 kr).1).trans kr)
    by_cases hlt : (k : Int) < z.n
    ·have hfa := far_any wr A' B' C' D' kA' kB' kC' kD' z k (hR.below hst.bel) hz hlt
     unfold rval at hfa
     go_wp2_with fail
     refine hfa.mono ?_
     rintro e w3 ⟨x, rfl, hx, hb3⟩
     have hst3 := hst.b hb3
     have hro := round_r w3 1 _ _ x _ hx (by decide) (by decide)
     have hTo := box_over hz hT (by omega)
     have hTm := fun u => boxT_more (u := u) hT
     generalize roundS 1 (some (reachZ z k)) = pr at hro hTo hTm
     obtain ⟨u, ok⟩ := pr
     dsimp only at hro hTo hTm
     clear r0 r1 r2 r3 r4 hfa hx hb3 hst
     go_wp2_with fail
     refine hro.mono ?_
     rintro e w5 ⟨rfl, hb5⟩
     have hst5 := hst3.b hb5
     clear hro hst3 hb5
     cases ok with
     | false =>
      have hbs := hTo rfl
      have hsz : sizeD z = z.n := by unfold sizeD; rw [(goodD_iff z).2 hz]; rfl
      rw [hsz] at hbs
      have HBAD := Lib.hid hbs
      replace k0 := k0.below hst5.bel
      replace k1 := k1.below hst5.bel
      replace hb2 := hb2.trans (hst5.bel.mono hb2.size)
      obtain ⟨x0, x1, x2, x3, x4, x5⟩ := k0.cells
      have hlo := Lost10_any w5 z.n
      unfold lostV at hlo
      clear hTo hTm hT hst5 hbs hsz
      go_wp2_with fail
      refine hlo.mono ?_
      rintro e w6 ⟨rfl, hb6⟩
      replace k1 := k1.below hb6
      replace hb2 := hb2.trans (hb6.mono hb2.size)
      clear hlo hb6 x0 x1 x2 x3 x4 x5 k0
      obtain ⟨y0, y1, y2, y3, y4, y5⟩ := k1.cells
      have hfr := fun j => k1.frozen j
      go_wp2_with fail
      obtain ⟨q1, q2⟩ := k1.put (.int .i64 z.n) (.slice none 0 0) (.slice none 0 0) (.slice none 0 0) (.slice none 0 0) (.bool true)
      obtain ⟨c0, c1, c2, c3, c4, c5⟩ := q1.cells
      refine bodyPost_ret (v := .agg #[.int .i64 z.n, .slice none 0 0, .slice none 0 0, .slice none 0 0, .slice none 0 0, .bool true]) (by simp [results, Tryz.results50, go_sem, c0, c1, c2, c3, c4, c5]) rfl ?_
      rw [HBAD.out]
      exact ⟨_, rfl, lostV_uis _ _, hb2.trans (below_row q2 (by omega) hb2.size)⟩
     | true =>
      have hTn := Lib.hid (hTm u rfl)
      have hst7 := hst5.b (below_alloc w5 (.cells #[.int .u64 (u : Nat)] 46))
      have hrl : rs.length ≤ 256 := by omega
      have q4 := hst5.out.cells.2.2.2.2.1
      clear hTl hT hTo hTm hst5
      go_wp2_with (at_builtin; refine wpList_app1 cU 8 (.int .u64 0) 27 46 Tryz.underlying27 infoU rfl rfl (.tmp 44) (.tmp 46) rfl W.heap.size vr rs u _ w5.heap.size rfl rfl hst7.r rfl rfl (cell_new0 w5 _ 46) (by omega) (by omega) hst7.size ?_; intro v8 w8 ho8 hg8 hn8; obtain ⟨A8, c8, hv8, _⟩ := ho8.lat; rw [List.length_append, List.length_singleton] at hv8; subst hv8; obtain ⟨kz, kst⟩ := hst7.putR ho8 hg8 hn8; have KK := Lib.hid kst; clear kst ho8 hg8 hn8; obtain ⟨y0, y1, y2, y3, y4, y5⟩ := kz.cells; have fr8 := (fun j => kz.frozen j))
      have kst := KK.out
      go_roundw
      case rel => exact ⟨k + 1, _, _, by omega, by go_num, hTn.out, kst⟩
      case measure => simp [intOf]; omega
    ·have hkn : k = z.n.toNat := by omega
     have hlt' : decide ((k : Int) < z.n) = false := decide_eq_false hlt
     have HEND := Lib.hid (box_end hz (hkn ▸ hT))
     clear hkn hT hTl hkl hlt
     obtain ⟨Ac, cc, Ar, cr, hvc, rfl⟩ := hst.slices
     have k1' := k1.below hst.bel
     obtain ⟨o0, o1, o2, o3, o4, o5⟩ := hst.out.cells
     obtain ⟨y0, y1, y2, y3, y4, y5⟩ := k1'.cells
     have hfr := fun j => k1'.frozen j
     have hbE := hb2.trans (hst.bel.mono hb2.size)
     clear hvc
     go_wp2_with fail
     obtain ⟨q1, q2⟩ := k1'.put (.int .i64 z.n) (.slice A4 z.c.length c4) (.slice none 0 0) (.slice none 0 0) (.slice Ar rs.length cr) (.bool false)
     obtain ⟨c0, c1, c2, c3, c4', c5⟩ := q1.cells
     refine bodyPost_ret (v := .agg #[.int .i64 z.n, .slice A4 z.c.length c4, .slice none 0 0, .slice none 0 0, .slice Ar rs.length cr, .bool false]) (by simp [results, Tryz.results50, go_sem, c0, c1, c2, c3, c4', c5]) rfl ?_
     rw [HEND.out]
     exact ⟨_, rfl, hst.farZ q2 k1'.typed, hbE.trans (below_row q2 (by omega) hbE.size)⟩
end Go.Proofs.YtpfbgenefjhcjaaGreatDoor
