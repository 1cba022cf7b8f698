/-
  law10.ZonoAsks.
-/
import Derived.Test.YtpfbgenefjhcjaaGreatDoorPZoChecks
import Derived.Test.YtpfbgenefjhcjaaGreatDoorPZoSpn
import Derived.Test.YtpfbgenefjhcjaaGreatDoorPZoText
namespace Go.Proofs.YtpfbgenefjhcjaaGreatDoor
set_option linter.unusedVariables false
set_option linter.unusedSimpArgs false
open Go Go.RowKit
set_option maxRecDepth 100000
attribute [local go_sem] run_store_flt
/-- The document's zonotope and the one that is laid out with room, in their boxes: what a law's beginning leaves. -/
structure TwoIn (w W : World) (z : ZD) (b3 b4 base : Nat) (A1 B1 C1 D1 A2 B2 C2 D2 : Option Addr) (kA1 kB1 kC1 kD1 kA2 kB2 kC2 kD2 : Nat) : Prop where
  ref : W.heap[b3]? = some (.cells #[.int .i64 z.n, .slice A1 z.c.length kA1, .slice B1 z.ids.length kB1, .slice C1 z.g.length kC1, .slice D1 z.r.length kD1, .bool z.bad] 30 (0, 0))
  laid : W.heap[b4]? = some (.cells #[.int .i64 z.n, .slice A2 z.c.length kA2, .slice B2 z.ids.length kB2, .slice C2 z.g.length kC2, .slice D2 z.r.length kD2, .bool z.bad] 26 (0, 0))
  refC : ZC cU W z A1 B1 C1 D1 kA1 kB1 kC1 kD1
  laidAt : LaidAt W base (.agg #[.int .i64 z.n, .slice A2 z.c.length kA2, .slice B2 z.ids.length kB2, .slice C2 z.g.length kC2, .slice D2 z.r.length kD2, .bool z.bad]) z
  below : Below w.heap.size w W
theorem TwoIn.b {w W W1 : World} {z : ZD} {b3 b4 base : Nat} {A1 B1 C1 D1 A2 B2 C2 D2 : Option Addr} {kA1 kB1 kC1 kD1 kA2 kB2 kC2 kD2 : Nat} (h : TwoIn w W z b3 b4 base A1 B1 C1 D1 A2 B2 C2 D2 kA1 kB1 kC1 kD1 kA2 kB2 kC2 kD2) (hb : Below W.heap.size W W1) : TwoIn w W1 z b3 b4 base A1 B1 C1 D1 A2 B2 C2 D2 kA1 kB1 kC1 kD1 kA2 kB2 kC2 kD2 :=
  ⟨(hb.block _ (Array.getElem?_eq_some_iff.1 h.ref).1).trans h.ref, (hb.block _ (Array.getElem?_eq_some_iff.1 h.laid).1).trans h.laid, h.refC.below hb, h.laidAt.below hb, h.below.trans (hb.mono h.below.size)⟩
theorem TwoIn.u {w W : World} {z : ZD} {b3 b4 base : Nat} {A1 B1 C1 D1 A2 B2 C2 D2 : Option Addr} {kA1 kB1 kC1 kD1 kA2 kB2 kC2 kD2 : Nat} (h : TwoIn w W z b3 b4 base A1 B1 C1 D1 A2 B2 C2 D2 kA1 kB1 kC1 kD1 kA2 kB2 kC2 kD2) : UIs W (.agg #[.int .i64 z.n, .slice A1 z.c.length kA1, .slice B1 z.ids.length kB1, .slice C1 z.g.length kC1, .slice D1 z.r.length kD1, .bool z.bad]) z := ⟨A1, B1, C1, D1, kA1, kB1, kC1, kD1, rfl, h.refC⟩
theorem TwoIn.z {w W : World} {z : ZD} {b3 b4 base : Nat} {A1 B1 C1 D1 A2 B2 C2 D2 : Option Addr} {kA1 kB1 kC1 kD1 kA2 kB2 kC2 kD2 : Nat} (h : TwoIn w W z b3 b4 base A1 B1 C1 D1 A2 B2 C2 D2 kA1 kB1 kC1 kD1 kA2 kB2 kC2 kD2) (hk : ZOk z) : ZIs W (.agg #[.int .i64 z.n, .slice A2 z.c.length kA2, .slice B2 z.ids.length kB2, .slice C2 z.g.length kC2, .slice D2 z.r.length kD2, .bool z.bad]) z := h.laidAt.cells hk
theorem WideAt.form {w : World} {base : Nat} {v : Value} {us : List Nat} (h : WideAt w base v us) : ∃ g cap : Nat, v = .slice (some ⟨g, 0, none⟩) us.length cap ∧ us.length ≤ cap := by
  obtain ⟨g, cap, h1, h2, h3, h4, h5⟩ := h
  exact ⟨g, cap, h1, by omega⟩
theorem WideAt.row {w : World} {base g cap : Nat} {us : List Nat} (h : WideAt w base (.slice (some ⟨g, 0, none⟩) us.length cap) us) : FR w (some ⟨g, 0, none⟩) us := by
  obtain ⟨A, c, e, _, _, _, hr⟩ := h.list
  injection e with e1 _ _
  rw [e1]
  exact hr
set_option maxHeartbeats 8000000 in
theorem asks_any (w : World) (v : Value) (z : ZD) (h : ZIn w v z) (Ad : Option Addr) (cd : Nat) (d : List Nat) (hd : FIn w Ad cd d) : Calls Tryz.prog 4 #[v, .slice Ad d.length cd] w fun e w' => e = .returned (.bool true) ∧ Below w.heap.size w w' := by
  obtain ⟨A, B, C, D, kA, kB, kC, kD, rfl, hc, hk, hgn⟩ := h
  have hb1 := below_alloc w (.cells #[.int .i64 z.n, .slice A z.c.length kA, .slice B z.ids.length kB, .slice C z.g.length kC, .slice D z.r.length kD, .bool z.bad] 26)
  have hx := heap_alloc_new w (.cells #[.int .i64 z.n, .slice A z.c.length kA, .slice B z.ids.length kB, .slice C z.g.length kC, .slice D z.r.length kD, .bool z.bad] 26)
  have hof := Of10_any _ _ z ⟨A, B, C, D, kA, kB, kC, kD, rfl, hc.below hb1⟩ hk
  unfold zval at hof ⊢
  go_enter Tryz.func4, Tryz.ntmps4
  go_wp2_with fail
  refine hof.mono ?_
  rintro e w1 ⟨v1, rfl, hu1, hb⟩
  obtain ⟨A1, B1, C1, D1, kA1, kB1, kC1, kD1, rfl, hc1⟩ := hu1
  unfold zval
  have hlw := (Array.getElem?_eq_some_iff.1 hx).1
  have hbu := below_alloc w1 (.cells #[.int .i64 z.n, .slice A1 z.c.length kA1, .slice B1 z.ids.length kB1, .slice C1 z.g.length kC1, .slice D1 z.r.length kD1, .bool z.bad] 30)
  have hb2 := (hb1.trans (hb.mono hb1.size)).trans (hbu.mono (hb1.trans (hb.mono hb1.size)).size)
  have g0 := (hbu.block _ (Nat.lt_of_lt_of_le hlw hb.size)).trans ((hb.block _ hlw).trans hx)
  have gu := heap_alloc_new w1 (.cells #[.int .i64 z.n, .slice A1 z.c.length kA1, .slice B1 z.ids.length kB1, .slice C1 z.g.length kC1, .slice D1 z.r.length kD1, .bool z.bad] 30)
  have hld := Laid_any (w1.alloc (.cells #[.int .i64 z.n, .slice A1 z.c.length kA1, .slice B1 z.ids.length kB1, .slice C1 z.g.length kC1, .slice D1 z.r.length kD1, .bool z.bad] 30)) A B C D kA kB kC kD z (hc.below hb2) (hgn.below hc.g hb2) hk
  have hcu := hc1.below hbu
  unfold zval at hld
  obtain ⟨x0, x1, x2, x3, x4, x5⟩ := cells6 g0
  clear hof hb hx hb1 hgn hc1
  go_wp2_with fail
  refine hld.mono ?_
  rintro e w2 ⟨v2, base, rfl, hbase, hL, hb⟩
  obtain ⟨A2, B2, C2, D2, kA2, kB2, kC2, kD2, rfl⟩ := hL.form
  clear x0 x1 x2 x3 x4 x5 hld
  go_upto_region 3 with fail
  have hbl := below_alloc w2 (.cells #[.int .i64 z.n, .slice A2 z.c.length kA2, .slice B2 z.ids.length kB2, .slice C2 z.g.length kC2, .slice D2 z.r.length kD2, .bool z.bad] 26)
  have gl := heap_alloc_new w2 (.cells #[.int .i64 z.n, .slice A2 z.c.length kA2, .slice B2 z.ids.length kB2, .slice C2 z.g.length kC2, .slice D2 z.r.length kD2, .bool z.bad] 26)
  have hT : TwoIn w (w2.alloc (.cells #[.int .i64 z.n, .slice A2 z.c.length kA2, .slice B2 z.ids.length kB2, .slice C2 z.g.length kC2, .slice D2 z.r.length kD2, .bool z.bad] 26)) z w1.heap.size w2.heap.size base A1 B1 C1 D1 A2 B2 C2 D2 kA1 kB1 kC1 kD1 kA2 kB2 kC2 kD2 :=
    ⟨(hbl.block _ (Nat.lt_of_lt_of_le (Array.getElem?_eq_some_iff.1 gu).1 hb.size)).trans ((hb.block _ (Array.getElem?_eq_some_iff.1 gu).1).trans gu), gl, (hcu.below hb).below hbl, hL.below hbl, (hb2.trans (hb.mono hb2.size)).trans (hbl.mono (hb2.trans (hb.mono hb2.size)).size)⟩
  clear g0 gu hcu hL hb hbu hb2 hbl gl hc hlw hbase
  generalize w2.alloc (.cells #[.int .i64 z.n, .slice A2 z.c.length kA2, .slice B2 z.ids.length kB2, .slice C2 z.g.length kC2, .slice D2 z.r.length kD2, .bool z.bad] 26) = W at *
  generalize w1.heap.size = b3 at *
  generalize w2.heap.size = b4 at *
  have hwd := wide_any W Ad d.length cd d (hd.at_.row.below (Nat.le_refl _) hT.below) rfl hd.most hd.at_.nil hd.at_.len
  go_wp2_with fail
  refine hwd.mono ?_
  rintro e w3 ⟨v3, rfl, hv3, hb⟩
  have hT3 := hT.b hb
  obtain ⟨g3, c3, rfl, hv3'⟩ := hv3.form
  obtain ⟨x0, x1, x2, x3, x4, x5⟩ := cells6 hT3.laid
  have hbd := bounds_any w3 _ z (hT3.z hk) hk
  clear hT hwd hb
  go_wp2_with fail
  refine hbd.mono ?_
  rintro e w4 ⟨As, cs, rfl, hS4, hs1, hs2, hb⟩
  have hT4 := hT3.b hb
  have hv4 := hv3.below hb
  clear x0 x1 x2 x3 x4 x5 hT3 hbd hv3 hv3'
  obtain ⟨x0, x1, x2, x3, x4, x5⟩ := cells6 hT4.laid
  have hsu := support_any w4 _ z (some ⟨g3, 0, none⟩) c3 d (hT4.z hk) hk hv4.row hd.small (maxF hd.most)
  go_wp2_with fail
  refine hsu.mono ?_
  rintro e w5 ⟨rfl, hb⟩
  have hT5 := hT4.b hb
  have hv5 := hv4.below hb
  have hS5 := hS4.below hb
  clear x0 x1 x2 x3 x4 x5 hT4 hsu hv4 hS4 hb
  generalize hsp : supD z d = sp
  obtain ⟨su, so⟩ := sp
  have HSP := Lib.hid hsp
  clear hsp
  have hS : ∀ W', Below w5.heap.size w5 W' → (W'.cell? ⟨b3, 0, none⟩ = some (.int .i64 z.n) ∧ W'.cell? ⟨b3, 1, none⟩ = some (.slice A1 z.c.length kA1) ∧ W'.cell? ⟨b3, 2, none⟩ = some (.slice B1 z.ids.length kB1) ∧ W'.cell? ⟨b3, 3, none⟩ = some (.slice C1 z.g.length kC1) ∧ W'.cell? ⟨b3, 4, none⟩ = some (.slice D1 z.r.length kD1) ∧ W'.cell? ⟨b3, 5, none⟩ = some (.bool z.bad)) := fun W' hb => cells6 (hT5.b hb).ref
  have hd0 := (Below.refl w5.heap.size w5).drew
  have QB := fun W1 (hb : Below w5.heap.size w5 W1) => Bits_t W1 Ad d.length cd d (hd.at_.row.below (Nat.le_refl _) (hT5.b hb).below) rfl hd.most
  have hU := fun W1 (hb : Below w5.heap.size w5 W1) => (hT5.b hb).u
  dsimp only
  go_wp2_with fail
  go_region_held3 (fun W' => (W'.cell? ⟨b3, 0, none⟩ = some (.int .i64 z.n) ∧ W'.cell? ⟨b3, 1, none⟩ = some (.slice A1 z.c.length kA1) ∧ W'.cell? ⟨b3, 2, none⟩ = some (.slice B1 z.ids.length kB1) ∧ W'.cell? ⟨b3, 3, none⟩ = some (.slice C1 z.g.length kC1) ∧ W'.cell? ⟨b3, 4, none⟩ = some (.slice D1 z.r.length kD1) ∧ W'.cell? ⟨b3, 5, none⟩ = some (.bool z.bad)))
    (first | (with_reducible exact hS _ hd0) | (with_reducible exact hS _ hg7) | (with_reducible exact hS _ hg6))
    (first
      | (go_at_call 27; (with_reducible refine (QB _ hd0).mono ?_); rintro e w6 ⟨A6, c6, rfl, hL6, hb6⟩; have hg6 := hd0.trans (hb6.mono hd0.size))
      | (go_at_call 26; (with_reducible refine (Support10_any _ _ z A6 c6 d (hU _ hg6) hk hL6.at_.row hd.small hd.most).mono ?_); rintro e w7 ⟨rfl, hb7⟩; have hg7 := hg6.trans (hb7.mono hg6.size)))
  rw [HSP.out]
  dsimp only
  have hT7 := hT5.b hg7
  have hS7 := hS5.below hg7
  have hv7 := hv5.below hg7
  clear hS hd0 QB hU hT5 hS5 hv5 hg6 hg7 hb6 hb7 hL6 HSP
  obtain ⟨x0, x1, x2, x3, x4, x5⟩ := cells6 hT7.ref
  have hb10 := Bounds10_any w7 _ z hT7.u hk
  have hln : (bndsD z).length ≤ 1000 := by omega
  generalize bndsD z = ss at *
  go_wp2_with fail
  refine hb10.mono ?_
  rintro e w8 ⟨A8, c8, rfl, hU8, hb⟩
  have hT8 := hT7.b hb
  have hv8 := hv7.below hb
  have hss := sameSpans_yes w8 As A8 cs c8 ss _ rfl (hS7.below hb) hU8 hln
  clear x0 x1 x2 x3 x4 x5 hb10 hb hT7 hv7 hS7 hU8 hln
  go_wp2_with fail
  refine hss.mono ?_
  rintro e w9 ⟨rfl, hb⟩
  have hT9 := hT8.b hb
  have hv9 := hv8.below hb
  have hbt := bits_nat su
  clear hss hb hT8 hv8
  go_wp2_with fail
  refine (hbt _).mono ?_
  rintro e w' ⟨rfl, rfl⟩
  clear hbt
  go_upto_region 9 with fail
  go_cut [4] from 50 to 68 (fun c wx => c = .bool true ∧ Below w.heap.size w wx)
  case first =>
    obtain ⟨x0, x1, x2, x3, x4, x5⟩ := cells6 hT9.ref
    obtain ⟨y0, y1, y2, y3, y4, y5⟩ := cells6 hT9.laid
    have hd0 := (Below.refl w'.heap.size w').drew
    have QH := Held_any w'.drew base _ _ z (hT9.b hd0).laidAt (hT9.b hd0).u hk
    have hdr := hd.at_.row
    go_region_with (first
      | (go_at_call 21; refine QH.mono ?_; rintro e wh ⟨rfl, hbh⟩; have hvh := (hv9.below hd0).below hbh; have hBh := (hT9.b hd0).below.trans (hbh.mono (hT9.b hd0).below.size))
      | (go_at_call 31; refine (kept_any _ _ _ d d.length hvh rfl hd.most).mono ?_; rintro e wk ⟨rfl, rfl⟩)
      | (go_at_call 32; (with_reducible refine (text_any _ (some ⟨g3, 0, none⟩) c3 d hvh.row hd.small hd.most).mono ?_); rintro e wt ⟨Bt, ct, rfl, hot, hbt⟩; have hcv1 := text_str hot wt (Below.refl _ _); have hBt := hBh.trans (hbt.mono hBh.size))
      | (go_at_call 32; (with_reducible refine (text_any _ Ad cd d (hdr.below (Nat.le_refl _) hBt) hd.small hd.most).mono ?_); rintro e wu ⟨Bu, cu, rfl, hou, hbu⟩; have hcv2 := text_str hou wu (Below.refl _ _); have hcv3 := text_str hot wu hbu; have hBu := hBt.trans (hbu.mono hBt.size))
      | (go_at_call 22; refine (started_any _).mono ?_; rintro e ws ⟨rfl, hbs⟩; have hBs := hBu.trans (hbs.mono hBu.size)))
    all_goals
      go_wp2_with fail
      go_meet
      exact ⟨rfl, hBs⟩
  case rest =>
    obtain ⟨rfl, hB⟩ := hcut
    go_wp2_with fail
    go_ret
    exact ⟨rfl, hB⟩
end Go.Proofs.YtpfbgenefjhcjaaGreatDoor
