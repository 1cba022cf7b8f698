/- zono.Box. -/
import Derived.Test.YtpfbgenefjhcjaaGreatDoorZoBoxD
import Derived.Test.YtpfbgenefjhcjaaGreatDoorPZoRea
namespace Go.Proofs.YtpfbgenefjhcjaaGreatDoor
set_option linter.unusedVariables false
set_option linter.unusedSimpArgs false
open Go Go.RowKit Go.Shelf
attribute [local go_sem] Oper.semAt_some run_store_flt
set_option maxRecDepth 100000
def TellsBox (w : World) (y : ZD) (e : Ending) (w' : World) : Prop := ∃ v, e = .returned v ∧ ZOwn w.heap.size w' v y ∧ Below w.heap.size w w'
section
variable {b0 gb : Nat} {bx : Array Value} {z : ZD} {vc vr vr' : Value} {W W1 W2 : World} {r r' : List Nat} {u : Nat}
theorem BSt.putR (h : BSt b0 gb bx z vc vr W r) (ho : FO (b0 + 1 + 1) W2 vr' (r ++ [u])) (hg : W.grownBy W2 vr.ownBlock) (hn : vr'.ownBlock = vr.ownBlock ∨ vr'.ownBlock = some W.heap.size) :
  ZB W2 gb (.int .i64 z.n) vc (.slice none 0 0) (.slice none 0 0) vr (.bool false) ∧ BSt b0 gb bx z vc vr' (W2.setCell ⟨gb, 4, none⟩ vr') (r ++ [u]) ∧ Below (b0 + 1 + 1) W (W2.setCell ⟨gb, 4, none⟩ vr') := by
 have hne : 26 ≠ 43 := by decide
 have hne' : 43 ≠ 26 := by decide
 have k0 := block_far h.box hg h.r.typed hne
 have k1 := block_far h.res hg h.r.typed hne
 have k2 : ZB W2 gb _ _ _ _ _ _ := block_far h.out hg h.r.typed hne
 have k3 : FO (b0 + 1 + 1) W2 vc (z.c.map plainU) := h.c.kept hg (by
  cases hv : vc.ownBlock with
  | none => exact Or.inl rfl
  | some k => exact Or.inr fun e => h.apart k hv e.symm)
 obtain ⟨q1, q2⟩ := k2.set4 vr'
 have hlo := h.lo
 have hb2 : Below (b0 + 1 + 1) W W2 := below_ownG h.r hg h.size
 refine ⟨k2, ⟨(q2.block _ (Array.getElem?_eq_some_iff.1 k0).1 (fun e => by cases e; omega)).trans k0, (q2.block _ (Array.getElem?_eq_some_iff.1 k1).1 (fun e => by cases e; omega)).trans k1, q1, k3.farR q2 (fun g e => by cases e; exact k2.typed) hne', ho.farR q2 (fun g e => by cases e; exact k2.typed) hne', fun g hv e => ?_, h.lo⟩, hb2.trans (below_row q2 hlo (Nat.le_trans h.size hb2.size))⟩
 rcases hn with hn | hn
 ·exact h.apart g hv (hn ▸ e)
 ·rw [hn] at e
  cases e
  have := (h.c.lt _ hv).2
  omega
theorem BSt.fin {b : Nat} (h : BSt b0 gb bx z vc vr W r) (hg : W.grownBy W1 (some b)) (hb : Typed W b 26) : ZOwnC (b0 + 1 + 1) W1 (boxZ z r) vc (.slice none 0 0) (.slice none 0 0) vr [] := by
 have hr : ∀ k, some b = some k → Typed W k 26 := fun k e => by cases e; exact hb
 have h1 := h.c.farR hg hr (by decide)
 have h2 := h.r.farR hg hr (by decide)
 refine ⟨⟨rfl, fun j us hu => ?_, fun i j v v' g hij e1 e2 hg => ?_⟩, OwnG.nil _ _, OwnG.nil _ _⟩
 ·match j, hu with
  | 0, hu => cases hu; exact ⟨_, rfl, h1⟩
  | 1, hu => cases hu; exact ⟨_, rfl, h2⟩
  | (j + 2), hu => simp [boxZ] at hu
 ·match i, j, hij, e1, e2 with
  | 0, 1, _, e1, e2 =>
   cases e1
   cases e2
   exact h.apart g hg
  | 0, (j + 2), _, _, h2 => simp at h2
  | 1, (j + 2), _, _, h2 => simp at h2
  | (i + 2), _, _, h1, _ => simp at h1
theorem BSt.start {w wc : World} {gC : Nat} (g0 : wc.heap[w.heap.size]? = some (.cells bx 26 (0, 0))) (g1 : ZB wc (w.heap.size + 1) (.int .i64 0) (.slice none 0 0) (.slice none 0 0) (.slice none 0 0) (.slice none 0 0) (.bool false))
  (hb1 : Below w.heap.size w wc) (hb : Below wc.heap.size wc W) (hz : Good z) (out : ZB W gb (.int .i64 z.n) (.slice (some ⟨gC, 0, none⟩) z.c.length z.c.length) (.slice none 0 0) (.slice none 0 0) (.slice none 0 0) (.bool false))
  (hC : FlB W gC z.c.length (z.c.map plainU)) (l1 : wc.heap.size ≤ gb) (l2 : wc.heap.size ≤ gC) :
  BSt w.heap.size gb bx z (.slice (some ⟨gC, 0, none⟩) z.c.length z.c.length) (.slice none 0 0) W [] ∧ Below w.heap.size w W := by
 have hl := g1.lt
 have h1 := hz.lenC
 have h2 := hz.n2
 exact ⟨⟨(hb.block _ (Array.getElem?_eq_some_iff.1 g0).1).trans g0, (hb.block _ hl).trans g1, out, hC.own (by rw [List.length_map]) (by omega) (by unfold maxLen; omega), OwnG.nil _ _, fun g _ e => (by cases e), by omega⟩, hb1.trans (hb.mono hb1.size)⟩
end
set_option maxHeartbeats 8000000 in
theorem Box_any (w : World) (v : Value) (z : ZD) (h : ZIs w v z) (hk : ZOk z) :
  Calls Tryz.prog 49 #[v] w fun e w' => TellsBox w (boxD z) e w' := by
 unfold TellsBox
 obtain ⟨A, B, C, D, kA, kB, kC, kD, rfl, hc⟩ := h
 obtain ⟨f0, f1, f2, f3⟩ := two_blocks w (.cells #[.int .i64 z.n, .slice A z.c.length kA, .slice B z.ids.length kB, .slice C z.g.length kC, .slice D z.r.length kD, .bool z.bad] 26) (.cells #[.int .i64 0, .slice none 0 0, .slice none 0 0, .slice none 0 0, .slice none 0 0, .bool false] 26)
 have hg := good_any _ _ z ⟨A, B, C, D, kA, kB, kC, kD, rfl, hc.below f3⟩ hk
 unfold zval at hg ⊢
 cases hgd : goodD z with
 | false =>
  rw [hgd] at hg
  have HBAD := Lib.hid (box_no hgd)
  clear hgd
  go_enter Tryz.func49, Tryz.ntmps49
  go_wp2_with fail
  refine hg.mono ?_
  rintro e w1 ⟨rfl, hb⟩
  have hb1 := f3.trans (hb.mono f3.size)
  rw [f2] at hb
  have g0 := (hb.block _ (by omega)).trans f0
  have g1 := (hb.block _ (by omega)).trans f1
  obtain ⟨x0, x1, x2, x3, x4, x5⟩ := cells6 g0
  clear hb f0 f1 f2 f3 hg
  go_wp2_with fail
  have hbd := bad_any w1 _ z ⟨A, B, C, D, kA, kB, kC, kD, rfl, hc.below hb1⟩ hk
  unfold zval lostV at hbd
  refine hbd.mono ?_
  rintro e w2 ⟨rfl, hb2⟩
  have k1 := (hb2.block _ (Array.getElem?_eq_some_iff.1 g1).1).trans g1
  have hb3 := hb1.trans (hb2.mono hb1.size)
  clear x0 x1 x2 x3 x4 x5 hb2 g0 g1 hbd
  obtain ⟨y0, y1, y2, y3, y4, y5⟩ := cells6 k1
  have hfr := fun j => frozen_of_row w2 _ j _ _ k1
  go_wp2_with fail
  obtain ⟨q1, q2⟩ := set6 k1 (.int .i64 (sizeD z)) (.slice none 0 0) (.slice none 0 0) (.slice none 0 0) (.slice none 0 0) (.bool true)
  obtain ⟨c0, c1, c2, c3, c4, c5⟩ := cells6 q1
  refine bodyPost_ret (v := .agg #[.int .i64 (sizeD z), .slice none 0 0, .slice none 0 0, .slice none 0 0, .slice none 0 0, .bool true]) (by simp [results, Tryz.results49, go_sem, c0, c1, c2, c3, c4, c5]) rfl ?_
  exact ⟨_, rfl, HBAD.out ▸ lost_own _ _ _, hb3.trans (below_row q2 (by omega) hb3.size)⟩
 | true =>
  rw [hgd] at hg
  have hz := (goodD_iff z).1 hgd
  have hN1 := hz.n1
  have hN2 := hz.n2
  clear hgd
  go_enter Tryz.func49, Tryz.ntmps49
  go_wp2_with fail
  refine hg.mono ?_
  rintro e wc ⟨rfl, hb⟩
  have hb1 := f3.trans (hb.mono f3.size)
  rw [f2] at hb
  have g0 := (hb.block _ (by omega)).trans f0
  have g1 : ZB wc (w.heap.size + 1) _ _ _ _ _ _ := (hb.block _ (by omega)).trans f1
  obtain ⟨x0, x1, x2, x3, x4, x5⟩ := cells6 g0
  have hl0 := (Array.getElem?_eq_some_iff.1 g0).1
  clear hb f0 f1 f2 f3 hg
  go_upto_region 3 with fail
  go_cut [3] from 12 to 17 (fun v wx => ∃ (gb : Nat) (vc : Value), v = .pointer (some ⟨gb, 0, none⟩) ∧ BSt w.heap.size gb #[.int .i64 z.n, .slice A z.c.length kA, .slice B z.ids.length kB, .slice C z.g.length kC, .slice D z.r.length kD, .bool z.bad] z vc (.slice none 0 0) wx [] ∧ Below w.heap.size w wx)
  case first =>
   have hlc : z.c.length ≤ 1000000 := by have := hz.lenC; omega
   have hplC := fun w1 (hb : Below wc.heap.size wc w1) => plain_any w1 A z.c.length kA z.c (hc.c.below (Nat.le_refl _) (hb1.trans (hb.mono hb1.size))) rfl hlc hk.c hz.numC
   have hS := fun W (hb : Below wc.heap.size wc W) => (show W.cell? ⟨w.heap.size, 0, none⟩ = some (.int .i64 z.n) ∧ W.cell? ⟨w.heap.size, 1, none⟩ = some (.slice A z.c.length kA) from ⟨(hb.cell (p := ⟨w.heap.size, 0, none⟩) hl0).trans x0, (hb.cell (p := ⟨w.heap.size, 1, none⟩) hl0).trans x1⟩)
   have hd := (Below.refl wc.heap.size wc).drew
   have hda := fun o => ((Below.refl wc.heap.size wc).alloc (Nat.le_refl _) o).drew
   have hzZ : ZB (wc.alloc (.cells #[.int .i64 0, .slice none 0 0, .slice none 0 0, .slice none 0 0, .slice none 0 0, .bool false] 26)).drew wc.heap.size (.int .i64 0) (.slice none 0 0) (.slice none 0 0) (.slice none 0 0) (.slice none 0 0) (.bool false) := World.alloc_heap_new wc (.cells #[.int .i64 0, .slice none 0 0, .slice none 0 0, .slice none 0 0, .slice none 0 0, .bool false] 26)
   have hszZ : wc.heap.size ≤ wc.heap.size := Nat.le_refl _
   clear x2 x3 x4 x5
   go_region_held3 (fun w' => w'.cell? ⟨w.heap.size, 0, none⟩ = some (.int .i64 z.n) ∧ w'.cell? ⟨w.heap.size, 1, none⟩ = some (.slice A z.c.length kA))
    (first | (with_reducible exact hS _ hd) | (with_reducible exact hS _ (hda _)) | (with_reducible exact hS _ hg9) | (with_reducible exact hS _ (hg9.alloc hg9.size _)) | (with_reducible exact hS _ (hst6 _ _ _ _ _ _)))
    (first
     | (go_at_call 91; (with_reducible refine (hplC _ hd).mono ?_); rintro e w9 ⟨g9, rfl, hl9, hF9, hb9⟩; have hg9 := hd.trans (hb9.mono hd.size))
     | (go_at_call 91; (with_reducible refine (hplC _ (hda (.cells #[.int .i64 0, .slice none 0 0, .slice none 0 0, .slice none 0 0, .slice none 0 0, .bool false] 26))).mono ?_); rintro e w9 ⟨g9, rfl, hl9, hF9, hb9⟩; have hg9 := (hda (.cells #[.int .i64 0, .slice none 0 0, .slice none 0 0, .slice none 0 0, .slice none 0 0, .bool false] 26)).trans (hb9.mono (hda (.cells #[.int .i64 0, .slice none 0 0, .slice none 0 0, .slice none 0 0, .slice none 0 0, .bool false] 26)).size); have hz9 := ZB.below hzZ hb9; have hzl := ZB.lt hz9; have hst6 := (fun v0 v1 v2 v3 v4 v5 => hg9.trans (below_row (set6 hz9 v0 v1 v2 v3 v4 v5).2 hszZ hg9.size)); obtain ⟨z0, z1, z2, z3, z4, z5⟩ := cells6 hz9; have hfr := (fun j => frozen_of_row w9 _ j _ _ hz9)))
   all_goals clear x0 x1 hplC hS
   all_goals have hsz9 := hg9.size
   all_goals have hlt9 := hF9.lt
   all_goals (try simp only [World.size_drew, World.size_alloc] at hl9)
   ·go_wp2_with fail
    go_meet
    case rel => exact ⟨_, _, rfl, BSt.start g0 g1 hb1 (hg9.alloc hg9.size _) hz (ZB.new w9 _ _ _ _ _ _) (hF9.below (below_alloc _ _)) (by omega) (by omega)⟩
   ·go_wp2_with fail
    go_meet
    case rel => exact ⟨_, _, rfl, BSt.start g0 g1 hb1 (hst6 _ _ _ _ _ _) hz ((set6 hz9 _ _ _ _ _ _).1) (hF9.farR (set6 hz9 _ _ _ _ _ _).2 (fun g e => by cases e; exact hz9.typed) (by decide)) (by omega) (by omega)⟩
  case rest =>
   obtain ⟨gb, vc, rfl, hst0, hbb⟩ := hcut
   clear x0 x1 x2 x3 x4 x5 hl0 g0 g1 hb1
   obtain ⟨x0, x1, x2, x3, x4, x5⟩ := cells6 hst0.box
   go_wp2_with fail
   clear x0 x1 x2 x3 x4 x5
   go_loopw [20] (fun kk wr => ∃ (k : Nat) (vr : Value) (rs : List Nat), k ≤ z.n.toNat ∧ kk = .int .i64 (k : Nat) ∧ boxT z k = some rs ∧ BSt w.heap.size gb #[.int .i64 z.n, .slice A z.c.length kA, .slice B z.ids.length kB, .slice C z.g.length kC, .slice D z.r.length kD, .bool z.bad] z vc vr wr rs ∧ Below w.heap.size w wr) (fun kk _ => z.n.toNat - (intOf kk).toNat)
   case atStart => exact ⟨0, _, [], Nat.zero_le _, rfl, rfl, hst0, hbb⟩
   case round =>
    obtain ⟨k, vr, rs, hkl, rfl, hT, hst, hB⟩ := hrel
    have hTl := boxT_len hT
    by_cases hlt : (k : Int) < z.n
    ·have hre := reach_any wr A B C D kA kB kC kD z k (hc.below hB) hk hz hlt
     unfold zval at hre
     obtain ⟨x0, x1, x2, x3, x4, x5⟩ := cells6 hst.box
     go_wp2_with fail
     refine hre.mono ?_
     rintro e w4 ⟨p, rfl, hp, hacc, hb4⟩
     clear x0 x1 x2 x3 x4 x5 hre
     have hrd := round_any w4 p 1 _ hacc (by decide) (by decide)
     have hTo := box_over hz hT (by omega)
     have hTm := fun u => boxT_more (u := u) hT
     clear hacc
     generalize roundS 1 (some (reachZ z k)) = pr at hrd hTo hTm
     obtain ⟨u, ok⟩ := pr
     dsimp only at hrd hTo hTm
     go_wp2_with fail
     refine hrd.mono ?_
     rintro e w5 ⟨rfl, hb5⟩
     have hb6 := hb4.trans (hb5.mono hb4.size)
     have hst6 := hst.below hb6
     have hB6 := hB.trans (hb6.mono hB.size)
     clear hp hb4 hb5 hst hb6 hrd
     cases ok with
     | false =>
      have HBAD := Lib.hid (hTo rfl)
      have g0 := hst6.box
      have g1 := hst6.res
      have hb1 := hB6
      obtain ⟨x0, x1, x2, x3, x4, x5⟩ := cells6 g0
      clear hT hst6 hB hB6 hst0 hbb hTo hTm hTl
      go_wp2_with fail
      have hbd := bad_any w5 _ z ⟨A, B, C, D, kA, kB, kC, kD, rfl, hc.below hb1⟩ hk
      unfold zval lostV at hbd
      refine hbd.mono ?_
      rintro e w2 ⟨rfl, hb2⟩
      have k1 := (hb2.block _ (Array.getElem?_eq_some_iff.1 g1).1).trans g1
      have hb3 := hb1.trans (hb2.mono hb1.size)
      clear x0 x1 x2 x3 x4 x5 hb2 g0 g1 hbd
      obtain ⟨y0, y1, y2, y3, y4, y5⟩ := cells6 k1
      have hfr := fun j => frozen_of_row w2 _ j _ _ k1
      go_wp2_with fail
      obtain ⟨q1, q2⟩ := set6 k1 (.int .i64 (sizeD z)) (.slice none 0 0) (.slice none 0 0) (.slice none 0 0) (.slice none 0 0) (.bool true)
      obtain ⟨c0, c1, c2, c3, c4, c5⟩ := cells6 q1
      refine bodyPost_ret (v := .agg #[.int .i64 (sizeD z), .slice none 0 0, .slice none 0 0, .slice none 0 0, .slice none 0 0, .bool true]) (by simp [results, Tryz.results49, go_sem, c0, c1, c2, c3, c4, c5]) rfl ?_
      exact ⟨_, rfl, HBAD.out ▸ lost_own _ _ _, hb3.trans (below_row q2 (by omega) hb3.size)⟩
     | true =>
      have hTn := Lib.hid (hTm u rfl)
      have hst7 := hst6.below (below_alloc w5 (.cells #[.float .f64 u] 43))
      have hB7 := hB6.alloc hB6.size (.cells #[.float .f64 u] 43)
      have hrl : rs.length ≤ 256 := by omega
      obtain ⟨x0, x1, x2, x3, x4, x5⟩ := cells6 hst6.out
      clear hTl hT hTo hTm hst6 hB hB6 hst0 hbb x0 x1 x2 x3 x5
      go_wp2_with (at_builtin; refine wpList_app1 cF 8 (.float .f64 0) 22 43 Tryz.underlying22 infoF64 rfl rfl (.tmp 35) (.tmp 37) rfl (w.heap.size + 1 + 1) vr rs u _ w5.heap.size rfl rfl hst7.r rfl rfl (cell_new0 w5 _ 43) (by omega) (by omega) hst7.size ?_; intro v8 w8 ho8 hg8 hn8; obtain ⟨A8, c8, hv8, _⟩ := ho8.lat; rw [List.length_append, List.length_singleton] at hv8; subst hv8; obtain ⟨kz, kst, kb⟩ := hst7.putR ho8 hg8 hn8; have KK := Lib.hid (And.intro kst kb); clear kst kb ho8 hg8 hn8; obtain ⟨y0, y1, y2, y3, y4, y5⟩ := cells6 kz; have fr8 := (fun j => frozen_of_row w8 _ j _ _ kz))
      obtain ⟨kst, kb⟩ := KK.out
      go_roundw
      case rel => exact ⟨k + 1, _, _, by omega, by go_num, hTn.out, kst, hB7.trans (kb.mono (show w.heap.size ≤ w.heap.size + 1 + 1 by omega))⟩
      case measure => simp [intOf]; omega
    ·have hkn : k = z.n.toNat := by omega
     have hlt' : decide ((k : Int) < z.n) = false := decide_eq_false hlt
     have HEND := Lib.hid (box_end hz (hkn ▸ hT))
     clear hkn hT hTl hkl hlt hst0 hbb
     obtain ⟨Ac, cc, hvc, _⟩ := hst.c.lat
     obtain ⟨Ar, cr, hvr, _⟩ := hst.r.lat
     rw [List.length_map] at hvc
     subst hvc hvr
     have k1 := hst.res
     obtain ⟨x0, x1, x2, x3, x4, x5⟩ := cells6 hst.out
     obtain ⟨y0, y1, y2, y3, y4, y5⟩ := cells6 k1
     have hfr := fun j => frozen_of_row wr _ j _ _ k1
     go_wp2_with fail
     obtain ⟨q1, q2⟩ := set6 k1 (.int .i64 z.n) (.slice Ac z.c.length cc) (.slice none 0 0) (.slice none 0 0) (.slice Ar rs.length cr) (.bool false)
     obtain ⟨c0, c1, c2, c3, c4, c5⟩ := cells6 q1
     refine bodyPost_ret (v := .agg #[.int .i64 z.n, .slice Ac z.c.length cc, .slice none 0 0, .slice none 0 0, .slice Ar rs.length cr, .bool false]) (by simp [results, Tryz.results49, go_sem, c0, c1, c2, c3, c4, c5]) rfl ?_
     exact ⟨_, rfl, HEND.out ▸ ZOwn.low (⟨_, _, _, _, [], rfl, hst.fin q2 ⟨_, k1⟩⟩ : ZOwn (w.heap.size + 1 + 1) _ _ (boxZ z rs)) (by omega), hB.trans (below_row q2 (by omega) hB.size)⟩
end Go.Proofs.YtpfbgenefjhcjaaGreatDoor
