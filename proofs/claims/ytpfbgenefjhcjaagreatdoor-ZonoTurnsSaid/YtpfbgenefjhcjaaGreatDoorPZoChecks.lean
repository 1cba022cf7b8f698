/-
  law10.ZonoChecks.
-/
import Derived.Test.YtpfbgenefjhcjaaGreatDoorPZoStart
import Derived.Test.YtpfbgenefjhcjaaGreatDoorPZoChk10
import Derived.Test.YtpfbgenefjhcjaaGreatDoorPZoFrame
namespace Go.Proofs.YtpfbgenefjhcjaaGreatDoor
set_option linter.unusedVariables false
set_option linter.unusedSimpArgs false
open Go Go.RowKit
set_option maxRecDepth 100000
theorem LaidAt.below {w w1 : World} {base : Nat} {v : Value} {z : ZD} (h : LaidAt w base v z) (hb : Below w.heap.size w w1) : LaidAt w1 base v z := by
  obtain ⟨g1, c1, gI, kI, gG, kG, g4, c4, gm, vals, rfl, hvc, hvr, ho, hG, hvl, hrows, hgm, hcm⟩ := h
  exact ⟨g1, c1, gI, kI, gG, kG, g4, c4, gm, vals, rfl, hvc.below hb, hvr.below hb, ho.below hb, hG.below hb, hvl, fun j us hu => by obtain ⟨u, h1, h2⟩ := hrows j us hu; exact ⟨u, h1, h2.below hb⟩, Nat.lt_of_lt_of_le hgm hb.size, (hb.cell (p := ⟨gm, 0, none⟩) hgm).trans hcm⟩
theorem LaidAt.form {w : World} {base : Nat} {v : Value} {z : ZD} (h : LaidAt w base v z) : ∃ A B C D kA kB kC kD, v = .agg #[.int .i64 z.n, .slice A z.c.length kA, .slice B z.ids.length kB, .slice C z.g.length kC, .slice D z.r.length kD, .bool z.bad] := by
  obtain ⟨g1, c1, gI, kI, gG, kG, g4, c4, gm, vals, rfl, _⟩ := h
  exact ⟨_, _, _, _, _, _, _, _, rfl⟩
theorem GNil.below {w w1 : World} {C : Option Addr} {gs : List (List Nat)} (h : GNil w C gs) (hr : GR w C gs) (hb : Below w.heap.size w w1) : GNil w1 C gs := fun k g hg b o B n cap hC hB hn => by
  obtain ⟨b', o', e, hl, _⟩ := hr k g hg
  rw [hC] at e
  injection e with e
  injection e with e1 e2 _
  subst e1
  exact h k g hg b o B n cap hC ((hb.cell (p := ⟨b, o + k, none⟩) hl).symm.trans hB) hn
/-- The two of them, boxed: the document's and the one that is laid out with room. -/
structure Pair (W : World) (b3 b4 : Nat) (z : ZD) (v3 v4 : Value) (base : Nat) : Prop where
  ref : UIs W v3 z
  laid : LaidAt W base v4 z
theorem Pair.below {W W1 : World} {b3 b4 base : Nat} {z : ZD} {v3 v4 : Value} (h : Pair W b3 b4 z v3 v4 base) (hb : Below W.heap.size W W1) : Pair W1 b3 b4 z v3 v4 base := ⟨h.ref.below hb, h.laid.below hb⟩
set_option maxHeartbeats 8000000 in
theorem checks_any (w : World) (v : Value) (z : ZD) (h : ZIn w v z) : Calls Tryz.prog 3 #[v] w fun e w' => e = .returned (.bool true) ∧ Below w.heap.size w w' := by
  obtain ⟨A, B, C, D, kA, kB, kC, kD, rfl, hc, hk, hgn⟩ := h
  have hb1 := below_alloc w (.cells #[.int .i64 z.n, .slice A z.c.length kA, .slice B z.ids.length kB, .slice C z.g.length kC, .slice D z.r.length kD, .bool z.bad] 26)
  have hx := heap_alloc_new w (.cells #[.int .i64 z.n, .slice A z.c.length kA, .slice B z.ids.length kB, .slice C z.g.length kC, .slice D z.r.length kD, .bool z.bad] 26)
  have hof := Of10_any _ _ z ⟨A, B, C, D, kA, kB, kC, kD, rfl, hc.below hb1⟩ hk
  unfold zval at hof ⊢
  go_enter Tryz.func3, Tryz.ntmps3
  go_wp2_with fail
  refine hof.mono ?_
  rintro e w1 ⟨v1, rfl, hu1, hb⟩
  obtain ⟨A1, B1, C1, D1, kA1, kB1, kC1, kD1, rfl, hc1⟩ := hu1
  unfold zval
  have hlw := (Array.getElem?_eq_some_iff.1 hx).1
  have hbu := below_alloc w1 (.cells #[.int .i64 z.n, .slice A1 z.c.length kA1, .slice B1 z.ids.length kB1, .slice C1 z.g.length kC1, .slice D1 z.r.length kD1, .bool z.bad] 30)
  have hb2 := (hb1.trans (hb.mono hb1.size)).trans (hbu.mono (hb1.trans (hb.mono hb1.size)).size)
  have g0 := (hbu.block _ (Nat.lt_of_lt_of_le hlw hb.size)).trans ((hb.block _ hlw).trans hx)
  have gu := heap_alloc_new w1 (.cells #[.int .i64 z.n, .slice A1 z.c.length kA1, .slice B1 z.ids.length kB1, .slice C1 z.g.length kC1, .slice D1 z.r.length kD1, .bool z.bad] 30)
  have hld := Laid_any (w1.alloc (.cells #[.int .i64 z.n, .slice A1 z.c.length kA1, .slice B1 z.ids.length kB1, .slice C1 z.g.length kC1, .slice D1 z.r.length kD1, .bool z.bad] 30)) A B C D kA kB kC kD z (hc.below hb2) (hgn.below hc.g hb2) hk
  have hcu := hc1.below hbu
  unfold zval at hld
  obtain ⟨x0, x1, x2, x3, x4, x5⟩ := cells6 g0
  clear hof hb hx hb1 hgn hc1
  go_wp2_with fail
  refine hld.mono ?_
  rintro e w2 ⟨v2, base, rfl, hbase, hL, hb⟩
  obtain ⟨A2, B2, C2, D2, kA2, kB2, kC2, kD2, rfl⟩ := hL.form
  clear x0 x1 x2 x3 x4 x5 hld
  go_upto_region 3 with fail
  have hbl := below_alloc w2 (.cells #[.int .i64 z.n, .slice A2 z.c.length kA2, .slice B2 z.ids.length kB2, .slice C2 z.g.length kC2, .slice D2 z.r.length kD2, .bool z.bad] 26)
  have gl := heap_alloc_new w2 (.cells #[.int .i64 z.n, .slice A2 z.c.length kA2, .slice B2 z.ids.length kB2, .slice C2 z.g.length kC2, .slice D2 z.r.length kD2, .bool z.bad] 26)
  have gu2 := (hbl.block _ (Nat.lt_of_lt_of_le (Array.getElem?_eq_some_iff.1 gu).1 hb.size)).trans ((hb.block _ (Array.getElem?_eq_some_iff.1 gu).1).trans gu)
  have hL2 := hL.below hbl
  have hcu2 := (hcu.below hb).below hbl
  have hb3 := hb2.trans (hb.mono hb2.size)
  have hb4 := hb3.trans (hbl.mono hb3.size)
  clear g0 gu hcu hL hb hbu hb2 hb3 hbl
  generalize w2.alloc (.cells #[.int .i64 z.n, .slice A2 z.c.length kA2, .slice B2 z.ids.length kB2, .slice C2 z.g.length kC2, .slice D2 z.r.length kD2, .bool z.bad] 26) = W at *
  obtain ⟨b3, hb3⟩ : ∃ b, w1.heap.size = b := ⟨_, rfl⟩
  obtain ⟨b4, hb4'⟩ : ∃ b, w2.heap.size = b := ⟨_, rfl⟩
  rw [hb3] at gu2 ⊢
  rw [hb4'] at gl ⊢
  clear hb3 hb4' hbase
  obtain ⟨x0, x1, x2, x3, x4, x5⟩ := cells6 gu2
  obtain ⟨y0, y1, y2, y3, y4, y5⟩ := cells6 gl
  have l3 := (Array.getElem?_eq_some_iff.1 gu2).1
  have l4 := (Array.getElem?_eq_some_iff.1 gl).1
  have hS : ∀ W', Below W.heap.size W W' → (W'.cell? ⟨b3, 0, none⟩ = some (.int .i64 z.n) ∧ W'.cell? ⟨b3, 1, none⟩ = some (.slice A1 z.c.length kA1) ∧ W'.cell? ⟨b3, 2, none⟩ = some (.slice B1 z.ids.length kB1) ∧ W'.cell? ⟨b3, 3, none⟩ = some (.slice C1 z.g.length kC1) ∧ W'.cell? ⟨b3, 4, none⟩ = some (.slice D1 z.r.length kD1) ∧ W'.cell? ⟨b3, 5, none⟩ = some (.bool z.bad)) ∧
      (W'.cell? ⟨b4, 0, none⟩ = some (.int .i64 z.n) ∧ W'.cell? ⟨b4, 1, none⟩ = some (.slice A2 z.c.length kA2) ∧ W'.cell? ⟨b4, 2, none⟩ = some (.slice B2 z.ids.length kB2) ∧ W'.cell? ⟨b4, 3, none⟩ = some (.slice C2 z.g.length kC2) ∧ W'.cell? ⟨b4, 4, none⟩ = some (.slice D2 z.r.length kD2) ∧ W'.cell? ⟨b4, 5, none⟩ = some (.bool z.bad)) := fun W' hb => ⟨cells6 ((hb.block _ l3).trans gu2), cells6 ((hb.block _ l4).trans gl)⟩
  have QC := fun W1 (hb : Below W.heap.size W W1) => Check_any W1 _ z ((hL2.cells hk).below hb) hk
  have hU : ∀ W1, Below W.heap.size W W1 → UIs W1 (.agg #[.int .i64 z.n, .slice A1 z.c.length kA1, .slice B1 z.ids.length kB1, .slice C1 z.g.length kC1, .slice D1 z.r.length kD1, .bool z.bad]) z := fun W1 hb => ⟨A1, B1, C1, D1, kA1, kB1, kC1, kD1, rfl, hcu2.below hb⟩
  have QR := fun W1 (hb : Below W.heap.size W W1) => Check10_any W1 _ z (hU W1 hb) hk
  have QH := fun W1 (hb : Below W.heap.size W W1) => Held_any W1 base _ _ z (hL2.below hb) (hU W1 hb) hk
  have hd := (Below.refl W.heap.size W).drew
  generalize chkD z = ch at *
  clear hL2 hcu2 hU hc hlw l3 l4 gu2 gl
  go_region_held3 (fun W' => (W'.cell? ⟨b3, 0, none⟩ = some (.int .i64 z.n) ∧ W'.cell? ⟨b3, 1, none⟩ = some (.slice A1 z.c.length kA1) ∧ W'.cell? ⟨b3, 2, none⟩ = some (.slice B1 z.ids.length kB1) ∧ W'.cell? ⟨b3, 3, none⟩ = some (.slice C1 z.g.length kC1) ∧ W'.cell? ⟨b3, 4, none⟩ = some (.slice D1 z.r.length kD1) ∧ W'.cell? ⟨b3, 5, none⟩ = some (.bool z.bad)) ∧
      (W'.cell? ⟨b4, 0, none⟩ = some (.int .i64 z.n) ∧ W'.cell? ⟨b4, 1, none⟩ = some (.slice A2 z.c.length kA2) ∧ W'.cell? ⟨b4, 2, none⟩ = some (.slice B2 z.ids.length kB2) ∧ W'.cell? ⟨b4, 3, none⟩ = some (.slice C2 z.g.length kC2) ∧ W'.cell? ⟨b4, 4, none⟩ = some (.slice D2 z.r.length kD2) ∧ W'.cell? ⟨b4, 5, none⟩ = some (.bool z.bad)))
    (first | (with_reducible exact hS _ hd) | (with_reducible exact hS _ hgs) | (with_reducible exact hS _ hgh) | (with_reducible exact hS _ hgc) | (with_reducible exact hS _ hgr))
    (first
      | (go_at_call 19; (with_reducible refine (QC _ hd).mono ?_); rintro e wc ⟨rfl, hbc⟩; have hgc := hd.trans (hbc.mono hd.size))
      | (go_at_call 19; revert hgr; intro hgr; (with_reducible refine (QC _ hgr).mono ?_); rintro e wc ⟨rfl, hbc⟩; have hgc := hgr.trans (hbc.mono hgr.size))
      | (go_at_call 18; (with_reducible refine (num_any _ _).mono ?_); rintro e wn ⟨rfl, rfl⟩)
      | (go_at_call 20; (with_reducible refine (QR _ hd).mono ?_); rintro e wr ⟨rfl, hbr⟩; have hgr := hd.trans (hbr.mono hd.size))
      | (go_at_call 20; revert hgc; intro hgc; (with_reducible refine (QR _ hgc).mono ?_); rintro e wr ⟨rfl, hbr⟩; have hgr := hgc.trans (hbr.mono hgc.size))
      | (go_at_call 21; (with_reducible refine (QH _ hgc).mono ?_); rintro e wh ⟨rfl, hbh⟩; have hgh := hgc.trans (hbh.mono hgc.size))
      | (go_at_call 21; (with_reducible refine (QH _ hgr).mono ?_); rintro e wh ⟨rfl, hbh⟩; have hgh := hgr.trans (hbh.mono hgr.size))
      | (go_at_call 22; (with_reducible refine (started_any _).mono ?_); rintro e ws ⟨rfl, hbs⟩; have hgs := hgh.trans (hbs.mono hgh.size)))
  all_goals
    go_wp2_with fail
    go_ret
    exact ⟨rfl, hb4.trans (hgs.mono hb4.size)⟩
end Go.Proofs.YtpfbgenefjhcjaaGreatDoor
