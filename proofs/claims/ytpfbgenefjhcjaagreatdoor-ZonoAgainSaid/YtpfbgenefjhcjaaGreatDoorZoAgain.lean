/- law10.ZonoAgain. -/
import Derived.Test.YtpfbgenefjhcjaaGreatDoorZoAgn0
import Derived.Test.YtpfbgenefjhcjaaGreatDoorZoLB
import Derived.Test.YtpfbgenefjhcjaaGreatDoorZoBox
import Derived.Test.YtpfbgenefjhcjaaGreatDoorZoBox10
import Derived.Test.YtpfbgenefjhcjaaGreatDoorZoLift10
import Derived.Test.YtpfbgenefjhcjaaGreatDoorPZoSpn
import Derived.Test.YtpfbgenefjhcjaaGreatDoorPZoFrame
import Derived.IntWalk
namespace Go.Proofs.YtpfbgenefjhcjaaGreatDoor
set_option linter.unusedVariables false
set_option linter.unusedSimpArgs false
open Go Go.RowKit
set_option maxRecDepth 100000
attribute [local go_sem] run_store_flt
set_option maxHeartbeats 16000000 in
theorem again_any (w : World) (v : Value) (z : ZD) (h : ZIn w v z) (Ad : Option Addr) (cd : Nat) (d : List Nat) (hd0 : FIn w Ad cd d) (next : Int) (lo : -9223372036854775808 ≤ next) (hi : next ≤ 9223372036854775807) (At : Option Addr) (ct : Nat) (ts : List Int) (hts : IIn w At ct ts) (To : Option Addr) (co : Nat) (os : List Nat) (hos : FIn w To co os) :
  Calls Tryz.prog 11 #[v, .slice Ad d.length cd, .int .i64 next, .slice At ts.length ct, .slice To os.length co] w fun e w' => e = .returned (.bool true) ∧ Below w.heap.size w w' := by
 obtain ⟨A, B, C, D, kA, kB, kC, kD, rfl, hc, hk, hgn⟩ := h
 have hb1 := below_alloc w (.cells #[.int .i64 z.n, .slice A z.c.length kA, .slice B z.ids.length kB, .slice C z.g.length kC, .slice D z.r.length kD, .bool z.bad] 26)
 have hx := heap_alloc_new w (.cells #[.int .i64 z.n, .slice A z.c.length kA, .slice B z.ids.length kB, .slice C z.g.length kC, .slice D z.r.length kD, .bool z.bad] 26)
 have hld := Laid_any _ A B C D kA kB kC kD z (hc.below hb1) (hgn.below hc.g hb1) hk
 unfold zval at hld ⊢
 obtain ⟨x0, x1, x2, x3, x4, x5⟩ := cells6 hx
 go_enter Tryz.func11, Tryz.ntmps11
 go_wp2_with fail
 refine hld.mono ?_
 rintro e w2 ⟨v2, base, rfl, hbase, hL, hb⟩
 obtain ⟨g1, c1, g4, c4, gI, kI, gG, kG, vals, rfl, hX⟩ := XIn.start (lo := w.heap.size) hL hk (Nat.le_trans hb1.size hbase)
 clear x0 x1 x2 x3 x4 x5 hld hx
 go_upto_region 2 with fail
 have hbl := below_alloc w2 (.cells #[.int .i64 z.n, .slice (some ⟨g1, 0, none⟩) z.c.length c1, .slice (some ⟨gI, 0, none⟩) z.ids.length kI, .slice (some ⟨gG, 0, none⟩) z.g.length kG, .slice (some ⟨g4, 0, none⟩) z.r.length c4, .bool z.bad] 26)
 have hX1 := hX _ _ hbl (ZB.new w2 _ _ _ _ _ _)
 have hBw := (hb1.trans (hb.mono hb1.size)).trans (hbl.mono (hb1.trans (hb.mono hb1.size)).size)
 clear hX hbl hb hL hbase hb1 hc hgn
 generalize w2.alloc (.cells #[.int .i64 z.n, .slice (some ⟨g1, 0, none⟩) z.c.length c1, .slice (some ⟨gI, 0, none⟩) z.ids.length kI, .slice (some ⟨gG, 0, none⟩) z.g.length kG, .slice (some ⟨g4, 0, none⟩) z.r.length c4, .bool z.bad] 26) = W at *
 generalize w2.heap.size = b at *
 clear w2
 go_wp2_with fail
 go_loopw [12] (fun kk wr => ∃ (i : Nat) (y : ZD), i ≤ 6 ∧ kk = .int .i64 (i : Nat) ∧ XIn w.heap.size wr b y (.slice (some ⟨g1, 0, none⟩) z.c.length c1) (.slice (some ⟨g4, 0, none⟩) z.r.length c4) gI kI gG kG vals ∧ Below w.heap.size w wr) (fun kk _ => 6 - (intOf kk).toNat)
 case atStart => exact ⟨0, z, by omega, rfl, hX1, hBw⟩
 case round =>
  clear hX1 hBw
  obtain ⟨i, y, hi6, rfl, hX, hBw⟩ := hrel
  by_cases h1 : (i : Int) ≤ (ts.length : Int)
  ·by_cases h2 : (i : Int) < 6
   ·have h1' : i ≤ ts.length := by omega
    have hof := Of10_any wr _ y hX.is hX.ok
    obtain ⟨x0, x1, x2, x3, x4, x5⟩ := cells6 hX.box
    go_wp2_with fail
    refine hof.mono ?_
    rintro e w3 ⟨v3, rfl, ⟨A3, B3, C3, D3, kA3, kB3, kC3, kD3, rfl, hu3⟩, hb⟩
    unfold zval
    have hbl := below_alloc w3 (.cells #[.int .i64 y.n, .slice A3 y.c.length kA3, .slice B3 y.ids.length kB3, .slice C3 y.g.length kC3, .slice D3 y.r.length kD3, .bool y.bad] 30)
    have gu := UB.new w3 (.int .i64 y.n) (.slice A3 y.c.length kA3) (.slice B3 y.ids.length kB3) (.slice C3 y.g.length kC3) (.slice D3 y.r.length kD3) (.bool y.bad)
    replace hu3 := hu3.below hbl
    have hX5 := (hX.b' hb).b' hbl
    replace hBw := (hBw.trans (hb.mono hBw.size)).trans (hbl.mono (hBw.trans (hb.mono hBw.size)).size)
    clear x0 x1 x2 x3 x4 x5 hof hb hbl hX
    go_upto_region 6 with fail
    generalize w3.alloc (.cells #[.int .i64 y.n, .slice A3 y.c.length kA3, .slice B3 y.ids.length kB3, .slice C3 y.g.length kC3, .slice D3 y.r.length kD3, .bool y.bad] 30) = W5 at *
    generalize w3.heap.size = b13 at *
    clear w3
    have hyk := hX5.ok
    have hln : (bndsD y).length ≤ 1000 := by
     unfold bndsD
     cases hg : goodD y with
     | false => rw [if_neg (by decide)]; exact Nat.zero_le _
     | true =>
      rw [if_pos rfl, List.length_map, List.length_range]
      have := ((goodD_iff y).1 hg).n2
      omega
    have hl := fun W1 (hb : Below W5.heap.size W5 W1) => Lift_any W1 _ y next ((hX5.b' hb).is) hyk hi
    have hl10 := fun W1 (hb : Below W5.heap.size W5 W1) => Lift10_any W1 _ y next ⟨A3, B3, C3, D3, kA3, kB3, kC3, kD3, rfl, hu3.below hb⟩ hyk hi
    have hbx := fun W1 (hb : Below W5.heap.size W5 W1) => Box_any W1 _ y ((hX5.b' hb).is) hyk
    have hbx10 := fun W1 (hb : Below W5.heap.size W5 W1) => Box10_any W1 _ y ⟨A3, B3, C3, D3, kA3, kB3, kC3, kD3, rfl, hu3.below hb⟩ hyk
    have hbn := fun W1 (hb : Below W5.heap.size W5 W1) => bounds_any W1 _ y ((hX5.b' hb).is) hyk
    have hb10 := fun W1 (hb : Below W5.heap.size W5 W1) => Bounds10_any W1 _ y ⟨A3, B3, C3, D3, kA3, kB3, kC3, kD3, rfl, hu3.below hb⟩ hyk
    have hs := fun W1 (hb : Below W5.heap.size W5 W1) => support_any W1 _ y Ad cd d ((hX5.b' hb).is) hyk (hd0.at_.row.below (Nat.le_refl _) (hBw.trans (hb.mono hBw.size))) hd0.small (maxF hd0.most)
    have hs10 := fun W1 (hb : Below W5.heap.size W5 W1) (At : Option Addr) (ct : Nat) (ht : UR W1 At d) => Support10_any W1 _ y At ct d ⟨A3, B3, C3, D3, kA3, kB3, kC3, kD3, rfl, hu3.below hb⟩ hyk ht hd0.small hd0.most
    have hlk := liftD_ok next hyk
    have hxk := boxD_ok hyk
    generalize liftD y next = p at hl hl10 hlk
    generalize boxD y = x at hbx hbx10 hxk
    generalize bndsD y = ss at hbn hb10 hln
    generalize supD y d = sp at hs hs10
    obtain ⟨l, m⟩ := p
    obtain ⟨su, so⟩ := sp
    unfold zval at hl10 hbx10 hb10 hs10
    unfold TellsLift at hl
    unfold TellsU at hl10
    unfold TellsBox at hbx
    unfold TellsBU at hbx10
    dsimp only at hl hl10 hlk hs hs10
    have hbt := bits_nat su
    go_wp2_with fail
    go_loopw [14] (fun kk wr => ∃ k : Nat, k ≤ 2 ∧ kk = .int .i64 (k : Nat) ∧ Below W5.heap.size W5 wr) (fun kk _ => 2 - (intOf kk).toNat)
    case atStart => exact ⟨0, by omega, rfl, Below.refl _ _⟩
    case round =>
     obtain ⟨k, hk2, rfl, hBr⟩ := hrel
     by_cases hlt : (k : Int) < 2
     ·skip
      have hXr := hX5.b' hBr
      have hlf := hl _ hBr
      obtain ⟨x0, x1, x2, x3, x4, x5⟩ := cells6 hXr.box
      go_wp2_with fail
      refine hlf.mono ?_
      rintro e w6 ⟨v6, rfl, hv6, hb6⟩
      obtain ⟨A5, B5, C5, D5, kA5, kB5, kC5, kD5, rfl, hl5⟩ := hv6.is
      unfold zval
      have hbl := below_alloc w6 (.cells #[.int .i64 l.n, .slice A5 l.c.length kA5, .slice B5 l.ids.length kB5, .slice C5 l.g.length kC5, .slice D5 l.r.length kD5, .bool l.bad] 26)
      have gl := ZB.new w6 (.int .i64 l.n) (.slice A5 l.c.length kA5) (.slice B5 l.ids.length kB5) (.slice C5 l.g.length kC5) (.slice D5 l.r.length kD5) (.bool l.bad)
      have hB6 := (hBr.trans (hb6.mono hBr.size)).trans (hbl.mono (hBr.trans (hb6.mono hBr.size)).size)
      replace hl5 := hl5.below hbl
      have hlf10 := hl10 _ hB6
      clear x0 x1 x2 x3 x4 x5 hlf hv6 hb6 hXr
      obtain ⟨x0, x1, x2, x3, x4, x5⟩ := cells6 (gu.below hB6)
      go_wp2_with fail
      refine hlf10.mono ?_
      rintro e w7 ⟨v7, rfl, hv7, hb7⟩
      obtain ⟨A6, B6, C6, D6, kA6, kB6, kC6, kD6, rfl, hl6⟩ := hv7
      unfold zval
      have hbl7 := below_alloc w7 (.cells #[.int .i64 l.n, .slice A6 l.c.length kA6, .slice B6 l.ids.length kB6, .slice C6 l.g.length kC6, .slice D6 l.r.length kD6, .bool l.bad] 30)
      have gk := UB.new w7 (.int .i64 l.n) (.slice A6 l.c.length kA6) (.slice B6 l.ids.length kB6) (.slice C6 l.g.length kC6) (.slice D6 l.r.length kD6) (.bool l.bad)
      have hB7 := (hB6.trans (hb7.mono hB6.size)).trans (hbl7.mono (hB6.trans (hb7.mono hB6.size)).size)
      replace gl := (gl.below hb7).below hbl7
      replace hl5 := (hl5.below hb7).below hbl7
      replace hl6 := hl6.below hbl7
      have hsu := hs _ hB7
      clear x0 x1 x2 x3 x4 x5 hlf10 hb7 hbl hbl7 hB6
      obtain ⟨x0, x1, x2, x3, x4, x5⟩ := cells6 (hX5.b' hB7).box
      go_wp2_with fail
      refine hsu.mono ?_
      rintro e w8 ⟨rfl, hb8⟩
      have hB8 := hB7.trans (hb8.mono hB7.size)
      replace gl := gl.below hb8
      replace gk := gk.below hb8
      replace hl5 := hl5.below hb8
      replace hl6 := hl6.below hb8
      have gu8 := gu.below hB8
      clear x0 x1 x2 x3 x4 x5 hsu hb8 hB7 hBr
      go_upto_region 12 with fail
      generalize w7.heap.size = b17 at *
      generalize w6.heap.size = b15 at *
      clear w6 w7
      have hS : ∀ W', Below w8.heap.size w8 W' → (fun w' => w'.cell? ⟨b13, 0, none⟩ = some (.int .i64 y.n) ∧ w'.cell? ⟨b13, 1, none⟩ = some (.slice A3 y.c.length kA3) ∧ w'.cell? ⟨b13, 2, none⟩ = some (.slice B3 y.ids.length kB3) ∧ w'.cell? ⟨b13, 3, none⟩ = some (.slice C3 y.g.length kC3) ∧ w'.cell? ⟨b13, 4, none⟩ = some (.slice D3 y.r.length kD3) ∧ w'.cell? ⟨b13, 5, none⟩ = some (.bool y.bad)) W' := fun W' hb => cells6 (gu8.below hb)
      have hd := (Below.refl w8.heap.size w8).drew
      refine late_begin (fun w' => w'.cell? ⟨b13, 0, none⟩ = some (.int .i64 y.n) ∧ w'.cell? ⟨b13, 1, none⟩ = some (.slice A3 y.c.length kA3) ∧ w'.cell? ⟨b13, 2, none⟩ = some (.slice B3 y.ids.length kB3) ∧ w'.cell? ⟨b13, 3, none⟩ = some (.slice C3 y.g.length kC3) ∧ w'.cell? ⟨b13, 4, none⟩ = some (.slice D3 y.r.length kD3) ∧ w'.cell? ⟨b13, 5, none⟩ = some (.bool y.bad)) [] (by kernel_rfl) ?_
      refine late_take (i := 0) (v := ?_) (some 63) rfl rfl (by kernel_rfl) (by kernel_rfl) (by kernel_rfl) (by kernel_rfl) (fun _ _ _ h => h) (by kernel_rfl) (hS _ hd) ?_ ?_
      rotate_left
      ·(intro w hSw; (try dsimp only at hSw); go_simp; try rfl)
      try simp only [Act.put, List.setIfInBounds_toArray, List.set_cons_zero, List.set_cons_succ]
      refine late_take (i := 1) (v := ?_) (some 64) rfl rfl (by kernel_rfl) (by kernel_rfl) (by kernel_rfl) (by kernel_rfl) (fun _ _ _ h => h) (by kernel_rfl) (hS _ hd) ?_ ?_
      rotate_left
      ·(intro w hSw; (try dsimp only at hSw); go_simp; try rfl)
      try simp only [Act.put, List.setIfInBounds_toArray, List.set_cons_zero, List.set_cons_succ]
      refine late_one (i := 2) rfl (by kernel_rfl) ?_
      intro K hK
      go_simp
      refine (Bits_t _ Ad d.length cd d (hd0.at_.row.below (Nat.le_refl _) (hBw.trans ((hB8.trans (hd.mono hB8.size)).mono hBw.size))) rfl hd0.most).mono ?_
      rintro e r1 ⟨At, ct, rfl, hLt, q1⟩
      have p1 := hd.trans (q1.mono hd.size)
      try show K _ _
      refine hK.out _ _ (Or.inr (hS _ p1)) ?_
      clear hK K
      try simp only [Act.put, List.setIfInBounds_toArray, List.set_cons_zero, List.set_cons_succ]
      refine late_one (i := 3) rfl (by kernel_rfl) ?_
      intro K hK
      go_simp
      refine (hs10 _ (hB8.trans (p1.mono hB8.size)) At ct hLt.at_.row).mono ?_
      rintro e r2 ⟨rfl, q2⟩
      have p2 := p1.trans (q2.mono p1.size)
      try show K _ _
      refine hK.out _ _ (Or.inr (hS _ p2)) ?_
      clear hK K
      try simp only [Act.put, List.setIfInBounds_toArray, List.set_cons_zero, List.set_cons_succ]
      refine late_take (i := 4) (v := ?_) (some 62) rfl rfl (by kernel_rfl) (by kernel_rfl) (by kernel_rfl) (by kernel_rfl) (fun _ _ _ h => h) (by kernel_rfl) (hS _ p2) ?_ ?_
      rotate_left
      ·(intro w hSw; (try dsimp only at hSw); go_simp; try rfl)
      try simp only [Act.put, List.setIfInBounds_toArray, List.set_cons_zero, List.set_cons_succ]
      refine late_take (i := 5) (v := ?_) (some 67) rfl rfl (by kernel_rfl) (by kernel_rfl) (by kernel_rfl) (by kernel_rfl) (fun _ _ _ h => h) (by kernel_rfl) (hS _ p2) ?_ ?_
      rotate_left
      ·(intro w hSw; (try dsimp only at hSw); go_simp; try rfl)
      try simp only [Act.put, List.setIfInBounds_toArray, List.set_cons_zero, List.set_cons_succ]
      refine late_take (i := 6) (v := ?_) (some 68) rfl rfl (by kernel_rfl) (by kernel_rfl) (by kernel_rfl) (by kernel_rfl) (fun _ _ _ h => h) (by kernel_rfl) (hS _ p2) ?_ ?_
      rotate_left
      ·(intro w hSw; (try dsimp only at hSw); go_simp; try rfl)
      try simp only [Act.put, List.setIfInBounds_toArray, List.set_cons_zero, List.set_cons_succ]
      refine late_take (i := 7) (v := ?_) (some 21) rfl rfl (by kernel_rfl) (by kernel_rfl) (by kernel_rfl) (by kernel_rfl) (fun _ _ _ h => h) (by kernel_rfl) (hS _ p2) ?_ ?_
      rotate_left
      ·(intro w hSw; (try dsimp only at hSw); go_simp; try rfl)
      try simp only [Act.put, List.setIfInBounds_toArray, List.set_cons_zero, List.set_cons_succ]
      refine late_take (i := 8) (v := ?_) (some 22) rfl rfl (by kernel_rfl) (by kernel_rfl) (by kernel_rfl) (by kernel_rfl) (fun _ _ _ h => h) (by kernel_rfl) (hS _ p2) ?_ ?_
      rotate_left
      ·(intro w hSw; (try dsimp only at hSw); go_simp; try rfl)
      try simp only [Act.put, List.setIfInBounds_toArray, List.set_cons_zero, List.set_cons_succ]
      refine late_done (by kernel_rfl) ?_ _
      have hB9 := hB8.trans (p2.mono hB8.size)
      have gl := gl.below p2
      have gk := gk.below p2
      replace hl5 := hl5.below p2
      replace hl6 := hl6.below p2
      have gu9 := gu8.below p2
      have hX9 := hX5.b' hB9
      clear hS hd p1 p2 q1 q2 hLt gu8 hB8 hs10
      generalize r2 = W9 at *
      go_wp2_with fail
      have hS : ∀ W', Below W9.heap.size W9 W' → (fun w' => (w'.cell? ⟨b, 0, none⟩ = some (.int .i64 y.n) ∧ w'.cell? ⟨b, 1, none⟩ = some (.slice (some ⟨g1, 0, none⟩) z.c.length c1) ∧ w'.cell? ⟨b, 2, none⟩ = some (.slice (some ⟨gI, 0, none⟩) y.ids.length kI) ∧ w'.cell? ⟨b, 3, none⟩ = some (.slice (some ⟨gG, 0, none⟩) y.g.length kG) ∧ w'.cell? ⟨b, 4, none⟩ = some (.slice (some ⟨g4, 0, none⟩) z.r.length c4) ∧ w'.cell? ⟨b, 5, none⟩ = some (.bool y.bad)) ∧ (w'.cell? ⟨b13, 0, none⟩ = some (.int .i64 y.n) ∧ w'.cell? ⟨b13, 1, none⟩ = some (.slice A3 y.c.length kA3) ∧ w'.cell? ⟨b13, 2, none⟩ = some (.slice B3 y.ids.length kB3) ∧ w'.cell? ⟨b13, 3, none⟩ = some (.slice C3 y.g.length kC3) ∧ w'.cell? ⟨b13, 4, none⟩ = some (.slice D3 y.r.length kD3) ∧ w'.cell? ⟨b13, 5, none⟩ = some (.bool y.bad)) ∧ (w'.cell? ⟨b15, 0, none⟩ = some (.int .i64 l.n) ∧ w'.cell? ⟨b15, 1, none⟩ = some (.slice A5 l.c.length kA5) ∧ w'.cell? ⟨b15, 2, none⟩ = some (.slice B5 l.ids.length kB5) ∧ w'.cell? ⟨b15, 3, none⟩ = some (.slice C5 l.g.length kC5) ∧ w'.cell? ⟨b15, 4, none⟩ = some (.slice D5 l.r.length kD5) ∧ w'.cell? ⟨b15, 5, none⟩ = some (.bool l.bad)) ∧ (w'.cell? ⟨b17, 0, none⟩ = some (.int .i64 l.n) ∧ w'.cell? ⟨b17, 1, none⟩ = some (.slice A6 l.c.length kA6) ∧ w'.cell? ⟨b17, 2, none⟩ = some (.slice B6 l.ids.length kB6) ∧ w'.cell? ⟨b17, 3, none⟩ = some (.slice C6 l.g.length kC6) ∧ w'.cell? ⟨b17, 4, none⟩ = some (.slice D6 l.r.length kD6) ∧ w'.cell? ⟨b17, 5, none⟩ = some (.bool l.bad))) W' := fun W' hb => ⟨cells6 (hX9.b' hb).box, cells6 (gu9.below hb), cells6 (gl.below hb), cells6 (gk.below hb)⟩
      have hd := (Below.refl W9.heap.size W9).drew
      have hD := fun W' (hb : Below W9.heap.size W9 W') => hB9.trans (hb.mono hB9.size)
      refine late_begin (fun w' => (w'.cell? ⟨b, 0, none⟩ = some (.int .i64 y.n) ∧ w'.cell? ⟨b, 1, none⟩ = some (.slice (some ⟨g1, 0, none⟩) z.c.length c1) ∧ w'.cell? ⟨b, 2, none⟩ = some (.slice (some ⟨gI, 0, none⟩) y.ids.length kI) ∧ w'.cell? ⟨b, 3, none⟩ = some (.slice (some ⟨gG, 0, none⟩) y.g.length kG) ∧ w'.cell? ⟨b, 4, none⟩ = some (.slice (some ⟨g4, 0, none⟩) z.r.length c4) ∧ w'.cell? ⟨b, 5, none⟩ = some (.bool y.bad)) ∧ (w'.cell? ⟨b13, 0, none⟩ = some (.int .i64 y.n) ∧ w'.cell? ⟨b13, 1, none⟩ = some (.slice A3 y.c.length kA3) ∧ w'.cell? ⟨b13, 2, none⟩ = some (.slice B3 y.ids.length kB3) ∧ w'.cell? ⟨b13, 3, none⟩ = some (.slice C3 y.g.length kC3) ∧ w'.cell? ⟨b13, 4, none⟩ = some (.slice D3 y.r.length kD3) ∧ w'.cell? ⟨b13, 5, none⟩ = some (.bool y.bad)) ∧ (w'.cell? ⟨b15, 0, none⟩ = some (.int .i64 l.n) ∧ w'.cell? ⟨b15, 1, none⟩ = some (.slice A5 l.c.length kA5) ∧ w'.cell? ⟨b15, 2, none⟩ = some (.slice B5 l.ids.length kB5) ∧ w'.cell? ⟨b15, 3, none⟩ = some (.slice C5 l.g.length kC5) ∧ w'.cell? ⟨b15, 4, none⟩ = some (.slice D5 l.r.length kD5) ∧ w'.cell? ⟨b15, 5, none⟩ = some (.bool l.bad)) ∧ (w'.cell? ⟨b17, 0, none⟩ = some (.int .i64 l.n) ∧ w'.cell? ⟨b17, 1, none⟩ = some (.slice A6 l.c.length kA6) ∧ w'.cell? ⟨b17, 2, none⟩ = some (.slice B6 l.ids.length kB6) ∧ w'.cell? ⟨b17, 3, none⟩ = some (.slice C6 l.g.length kC6) ∧ w'.cell? ⟨b17, 4, none⟩ = some (.slice D6 l.r.length kD6) ∧ w'.cell? ⟨b17, 5, none⟩ = some (.bool l.bad))) [] (by kernel_rfl) ?_
      refine late_take (i := 0) (v := ?_) (some 69) rfl rfl (by kernel_rfl) (by kernel_rfl) (by kernel_rfl) (by kernel_rfl) (fun _ _ _ h => h) (by kernel_rfl) (hS _ hd) ?_ ?_
      rotate_left
      ·(intro w hSw; (try dsimp only at hSw); go_simp; try rfl)
      try simp only [Act.put, List.setIfInBounds_toArray, List.set_cons_zero, List.set_cons_succ]
      refine late_take (i := 1) (v := ?_) (some 70) rfl rfl (by kernel_rfl) (by kernel_rfl) (by kernel_rfl) (by kernel_rfl) (fun _ _ _ h => h) (by kernel_rfl) (hS _ hd) ?_ ?_
      rotate_left
      ·(intro w hSw; (try dsimp only at hSw); go_simp; try rfl)
      try simp only [Act.put, List.setIfInBounds_toArray, List.set_cons_zero, List.set_cons_succ]
      refine late_take (i := 2) (v := ?_) (some 71) rfl rfl (by kernel_rfl) (by kernel_rfl) (by kernel_rfl) (by kernel_rfl) (fun _ _ _ h => h) (by kernel_rfl) (hS _ hd) ?_ ?_
      rotate_left
      ·(intro w hSw; (try dsimp only at hSw); go_simp; try rfl)
      try simp only [Act.put, List.setIfInBounds_toArray, List.set_cons_zero, List.set_cons_succ]
      refine late_take (i := 3) (v := ?_) (some 72) rfl rfl (by kernel_rfl) (by kernel_rfl) (by kernel_rfl) (by kernel_rfl) (fun _ _ _ h => h) (by kernel_rfl) (hS _ hd) ?_ ?_
      rotate_left
      ·(intro w hSw; (try dsimp only at hSw); go_simp; try rfl)
      try simp only [Act.put, List.setIfInBounds_toArray, List.set_cons_zero, List.set_cons_succ]
      refine late_take (i := 4) (v := ?_) (some 73) rfl rfl (by kernel_rfl) (by kernel_rfl) (by kernel_rfl) (by kernel_rfl) (fun _ _ _ h => h) (by kernel_rfl) (hS _ hd) ?_ ?_
      rotate_left
      ·(intro w hSw; (try dsimp only at hSw); go_simp; try rfl)
      try simp only [Act.put, List.setIfInBounds_toArray, List.set_cons_zero, List.set_cons_succ]
      refine late_take (i := 5) (v := ?_) (some 74) rfl rfl (by kernel_rfl) (by kernel_rfl) (by kernel_rfl) (by kernel_rfl) (fun _ _ _ h => h) (by kernel_rfl) (hS _ hd) ?_ ?_
      rotate_left
      ·(intro w hSw; (try dsimp only at hSw); go_simp; try rfl)
      try simp only [Act.put, List.setIfInBounds_toArray, List.set_cons_zero, List.set_cons_succ]
      refine late_one (i := 6) rfl (by kernel_rfl) ?_
      intro K hK
      go_simp
      refine (Same10_yes _ A5 B5 C5 D5 A6 B6 C6 D6 kA5 kB5 kC5 kD5 kA6 kB6 kC6 kD6 l (hl5.below hd) (hl6.below hd) hlk).mono ?_
      rintro e r1 ⟨rfl, q1⟩
      have p1 := hd.trans (q1.mono hd.size)
      try show K _ _
      refine hK.out _ _ (Or.inr (hS _ p1)) ?_
      clear hK K
      try simp only [Act.put, List.setIfInBounds_toArray, List.set_cons_zero, List.set_cons_succ]
      refine late_take (i := 7) (v := ?_) (some 76) rfl rfl (by kernel_rfl) (by kernel_rfl) (by kernel_rfl) (by kernel_rfl) (fun _ _ _ h => h) (by kernel_rfl) (hS _ p1) ?_ ?_
      rotate_left
      ·(intro w hSw; (try dsimp only at hSw); go_simp; try rfl)
      try simp only [Act.put, List.setIfInBounds_toArray, List.set_cons_zero, List.set_cons_succ]
      refine late_take (i := 8) (v := ?_) (some 77) rfl rfl (by kernel_rfl) (by kernel_rfl) (by kernel_rfl) (by kernel_rfl) (fun _ _ _ h => h) (by kernel_rfl) (hS _ p1) ?_ ?_
      rotate_left
      ·(intro w hSw; (try dsimp only at hSw); go_simp; try rfl)
      try simp only [Act.put, List.setIfInBounds_toArray, List.set_cons_zero, List.set_cons_succ]
      refine late_take (i := 9) (v := ?_) (some 78) rfl rfl (by kernel_rfl) (by kernel_rfl) (by kernel_rfl) (by kernel_rfl) (fun _ _ _ h => h) (by kernel_rfl) (hS _ p1) ?_ ?_
      rotate_left
      ·(intro w hSw; (try dsimp only at hSw); go_simp; try rfl)
      try simp only [Act.put, List.setIfInBounds_toArray, List.set_cons_zero, List.set_cons_succ]
      refine late_take (i := 10) (v := ?_) (some 79) rfl rfl (by kernel_rfl) (by kernel_rfl) (by kernel_rfl) (by kernel_rfl) (fun _ _ _ h => h) (by kernel_rfl) (hS _ p1) ?_ ?_
      rotate_left
      ·(intro w hSw; (try dsimp only at hSw); go_simp; try rfl)
      try simp only [Act.put, List.setIfInBounds_toArray, List.set_cons_zero, List.set_cons_succ]
      refine late_take (i := 11) (v := ?_) (some 80) rfl rfl (by kernel_rfl) (by kernel_rfl) (by kernel_rfl) (by kernel_rfl) (fun _ _ _ h => h) (by kernel_rfl) (hS _ p1) ?_ ?_
      rotate_left
      ·(intro w hSw; (try dsimp only at hSw); go_simp; try rfl)
      try simp only [Act.put, List.setIfInBounds_toArray, List.set_cons_zero, List.set_cons_succ]
      refine late_take (i := 12) (v := ?_) (some 81) rfl rfl (by kernel_rfl) (by kernel_rfl) (by kernel_rfl) (by kernel_rfl) (fun _ _ _ h => h) (by kernel_rfl) (hS _ p1) ?_ ?_
      rotate_left
      ·(intro w hSw; (try dsimp only at hSw); go_simp; try rfl)
      try simp only [Act.put, List.setIfInBounds_toArray, List.set_cons_zero, List.set_cons_succ]
      refine late_take (i := 13) (v := ?_) (some 82) rfl rfl (by kernel_rfl) (by kernel_rfl) (by kernel_rfl) (by kernel_rfl) (fun _ _ _ h => h) (by kernel_rfl) (hS _ p1) ?_ ?_
      rotate_left
      ·(intro w hSw; (try dsimp only at hSw); go_simp; try rfl)
      try simp only [Act.put, List.setIfInBounds_toArray, List.set_cons_zero, List.set_cons_succ]
      refine late_take (i := 14) (v := ?_) (some 83) rfl rfl (by kernel_rfl) (by kernel_rfl) (by kernel_rfl) (by kernel_rfl) (fun _ _ _ h => h) (by kernel_rfl) (hS _ p1) ?_ ?_
      rotate_left
      ·(intro w hSw; (try dsimp only at hSw); go_simp; try rfl)
      try simp only [Act.put, List.setIfInBounds_toArray, List.set_cons_zero, List.set_cons_succ]
      refine late_take (i := 15) (v := ?_) (some 84) rfl rfl (by kernel_rfl) (by kernel_rfl) (by kernel_rfl) (by kernel_rfl) (fun _ _ _ h => h) (by kernel_rfl) (hS _ p1) ?_ ?_
      rotate_left
      ·(intro w hSw; (try dsimp only at hSw); go_simp; try rfl)
      try simp only [Act.put, List.setIfInBounds_toArray, List.set_cons_zero, List.set_cons_succ]
      refine late_take (i := 17) (v := ?_) (some 86) rfl rfl (by kernel_rfl) (by kernel_rfl) (by kernel_rfl) (by kernel_rfl) (fun _ _ _ h => h) (by kernel_rfl) (hS _ p1) ?_ ?_
      rotate_left
      ·(intro w hSw; (try dsimp only at hSw); go_simp; try rfl)
      try simp only [Act.put, List.setIfInBounds_toArray, List.set_cons_zero, List.set_cons_succ]
      refine late_one (i := 16) rfl (by kernel_rfl) ?_
      intro K hK
      go_simp
      refine (hbt _).mono ?_
      rintro e r2 ⟨rfl, rfl⟩
      try show K _ _
      refine hK.out _ _ (Or.inr (hS _ p1)) ?_
      clear hK K
      try simp only [Act.put, List.setIfInBounds_toArray, List.set_cons_zero, List.set_cons_succ]
      refine late_take (i := 18) (v := ?_) (some 87) rfl rfl (by kernel_rfl) (by kernel_rfl) (by kernel_rfl) (by kernel_rfl) (fun _ _ _ h => h) (by kernel_rfl) (hS _ p1) ?_ ?_
      rotate_left
      ·(intro w hSw; (try dsimp only at hSw); go_simp; try rfl)
      try simp only [Act.put, List.setIfInBounds_toArray, List.set_cons_zero, List.set_cons_succ]
      refine late_take (i := 19) (v := ?_) (some 88) rfl rfl (by kernel_rfl) (by kernel_rfl) (by kernel_rfl) (by kernel_rfl) (fun _ _ _ h => h) (by kernel_rfl) (hS _ p1) ?_ ?_
      rotate_left
      ·(intro w hSw; (try dsimp only at hSw); go_simp; try rfl)
      try simp only [Act.put, List.setIfInBounds_toArray, List.set_cons_zero, List.set_cons_succ]
      refine late_take (i := 20) (v := ?_) (some 89) rfl rfl (by kernel_rfl) (by kernel_rfl) (by kernel_rfl) (by kernel_rfl) (fun _ _ _ h => h) (by kernel_rfl) (hS _ p1) ?_ ?_
      rotate_left
      ·(intro w hSw; (try dsimp only at hSw); go_simp; try rfl)
      try simp only [Act.put, List.setIfInBounds_toArray, List.set_cons_zero, List.set_cons_succ]
      refine late_take (i := 21) (v := ?_) (some 90) rfl rfl (by kernel_rfl) (by kernel_rfl) (by kernel_rfl) (by kernel_rfl) (fun _ _ _ h => h) (by kernel_rfl) (hS _ p1) ?_ ?_
      rotate_left
      ·(intro w hSw; (try dsimp only at hSw); go_simp; try rfl)
      try simp only [Act.put, List.setIfInBounds_toArray, List.set_cons_zero, List.set_cons_succ]
      refine late_take (i := 23) (v := ?_) (some 92) rfl rfl (by kernel_rfl) (by kernel_rfl) (by kernel_rfl) (by kernel_rfl) (fun _ _ _ h => h) (by kernel_rfl) (hS _ p1) ?_ ?_
      rotate_left
      ·(intro w hSw; (try dsimp only at hSw); go_simp; try rfl)
      try simp only [Act.put, List.setIfInBounds_toArray, List.set_cons_zero, List.set_cons_succ]
      refine late_one (i := 22) rfl (by kernel_rfl) ?_
      intro K hK
      go_simp
      refine (hbn _ (hD _ p1)).mono ?_
      rintro e r3 ⟨As, cs, rfl, hS4, hs1, hs2, q3⟩
      have p3 := p1.trans (q3.mono p1.size)
      try show K _ _
      refine hK.out _ _ (Or.inr (hS _ p3)) ?_
      clear hK K
      try simp only [Act.put, List.setIfInBounds_toArray, List.set_cons_zero, List.set_cons_succ]
      refine late_one (i := 24) rfl (by kernel_rfl) ?_
      intro K hK
      go_simp
      refine (hb10 _ (hD _ p3)).mono ?_
      rintro e r4 ⟨A8, c8, rfl, hU8, q4⟩
      have p4 := p3.trans (q4.mono p3.size)
      try show K _ _
      refine hK.out _ _ (Or.inr (hS _ p4)) ?_
      clear hK K
      try simp only [Act.put, List.setIfInBounds_toArray, List.set_cons_zero, List.set_cons_succ]
      refine late_one (i := 25) rfl (by kernel_rfl) ?_
      intro K hK
      go_simp
      refine (sameSpans_yes _ As A8 cs c8 ss _ rfl (hS4.below q4) hU8 hln).mono ?_
      rintro e r5 ⟨rfl, q5⟩
      have p5 := p4.trans (q5.mono p4.size)
      try show K _ _
      refine hK.out _ _ (Or.inr (hS _ p5)) ?_
      clear hK K
      try simp only [Act.put, List.setIfInBounds_toArray, List.set_cons_zero, List.set_cons_succ]
      refine late_take (i := 26) (v := ?_) (some 95) rfl rfl (by kernel_rfl) (by kernel_rfl) (by kernel_rfl) (by kernel_rfl) (fun _ _ _ h => h) (by kernel_rfl) (hS _ p5) ?_ ?_
      rotate_left
      ·(intro w hSw; (try dsimp only at hSw); go_simp; try rfl)
      try simp only [Act.put, List.setIfInBounds_toArray, List.set_cons_zero, List.set_cons_succ]
      refine late_take (i := 27) (v := ?_) (some 96) rfl rfl (by kernel_rfl) (by kernel_rfl) (by kernel_rfl) (by kernel_rfl) (fun _ _ _ h => h) (by kernel_rfl) (hS _ p5) ?_ ?_
      rotate_left
      ·(intro w hSw; (try dsimp only at hSw); go_simp; try rfl)
      try simp only [Act.put, List.setIfInBounds_toArray, List.set_cons_zero, List.set_cons_succ]
      refine late_take (i := 28) (v := ?_) (some 97) rfl rfl (by kernel_rfl) (by kernel_rfl) (by kernel_rfl) (by kernel_rfl) (fun _ _ _ h => h) (by kernel_rfl) (hS _ p5) ?_ ?_
      rotate_left
      ·(intro w hSw; (try dsimp only at hSw); go_simp; try rfl)
      try simp only [Act.put, List.setIfInBounds_toArray, List.set_cons_zero, List.set_cons_succ]
      refine late_take (i := 29) (v := ?_) (some 98) rfl rfl (by kernel_rfl) (by kernel_rfl) (by kernel_rfl) (by kernel_rfl) (fun _ _ _ h => h) (by kernel_rfl) (hS _ p5) ?_ ?_
      rotate_left
      ·(intro w hSw; (try dsimp only at hSw); go_simp; try rfl)
      try simp only [Act.put, List.setIfInBounds_toArray, List.set_cons_zero, List.set_cons_succ]
      refine late_take (i := 31) (v := ?_) (some 100) rfl rfl (by kernel_rfl) (by kernel_rfl) (by kernel_rfl) (by kernel_rfl) (fun _ _ _ h => h) (by kernel_rfl) (hS _ p5) ?_ ?_
      rotate_left
      ·(intro w hSw; (try dsimp only at hSw); go_simp; try rfl)
      try simp only [Act.put, List.setIfInBounds_toArray, List.set_cons_zero, List.set_cons_succ]
      refine late_one (i := 30) rfl (by kernel_rfl) ?_
      intro K hK
      go_simp
      refine (hbx _ (hD _ p5)).mono ?_
      rintro e r6 ⟨v6, rfl, hv6, q6⟩
      have p6 := p5.trans (q6.mono p5.size)
      obtain ⟨A9, B9, C9, D9, kA9, kB9, kC9, kD9, rfl, hx9⟩ := hv6.is
      unfold zval
      try show K _ _
      refine hK.out _ _ (Or.inr (hS _ p6)) ?_
      clear hK K
      try simp only [Act.put, List.setIfInBounds_toArray, List.set_cons_zero, List.set_cons_succ]
      refine late_one (i := 32) rfl (by kernel_rfl) ?_
      intro K hK
      go_simp
      refine (hbx10 _ (hD _ p6)).mono ?_
      rintro e r7 ⟨v7, rfl, ⟨A7, B7, C7, D7, kA7, kB7, kC7, kD7, rfl, hx7⟩, q7⟩
      unfold zval
      have p7 := p6.trans (q7.mono p6.size)
      try show K _ _
      refine hK.out _ _ (Or.inr (hS _ p7)) ?_
      clear hK K
      try simp only [Act.put, List.setIfInBounds_toArray, List.set_cons_zero, List.set_cons_succ]
      refine late_one (i := 33) rfl (by kernel_rfl) ?_
      intro K hK
      go_simp
      refine (Same10_yes _ A9 B9 C9 D9 A7 B7 C7 D7 kA9 kB9 kC9 kD9 kA7 kB7 kC7 kD7 x (hx9.below q7) hx7 hxk).mono ?_
      rintro e r8 ⟨rfl, q8⟩
      have p8 := p7.trans (q8.mono p7.size)
      try show K _ _
      refine hK.out _ _ (Or.inr (hS _ p8)) ?_
      clear hK K
      try simp only [Act.put, List.setIfInBounds_toArray, List.set_cons_zero, List.set_cons_succ]
      refine late_take (i := 34) (v := ?_) (some 103) rfl rfl (by kernel_rfl) (by kernel_rfl) (by kernel_rfl) (by kernel_rfl) (fun _ _ _ h => h) (by kernel_rfl) (hS _ p8) ?_ ?_
      rotate_left
      ·(intro w hSw; (try dsimp only at hSw); go_simp; try rfl)
      try simp only [Act.put, List.setIfInBounds_toArray, List.set_cons_zero, List.set_cons_succ]
      refine late_take (i := 35) (v := ?_) (some 104) rfl rfl (by kernel_rfl) (by kernel_rfl) (by kernel_rfl) (by kernel_rfl) (fun _ _ _ h => h) (by kernel_rfl) (hS _ p8) ?_ ?_
      rotate_left
      ·(intro w hSw; (try dsimp only at hSw); go_simp; try rfl)
      try simp only [Act.put, List.setIfInBounds_toArray, List.set_cons_zero, List.set_cons_succ]
      refine late_done (by kernel_rfl) ?_ _
      have hB14 := hD _ p8
      go_wp2_with fail
      go_roundw
      case rel => exact ⟨k + 1, by omega, by go_num, hB14⟩
      case measure => simp [intOf]; omega
     ·have hlt' : decide ((k : Int) < 2) = false := decide_eq_false hlt
      clear hl hl10 hbx hbx10 hbn hb10 hs hs10 hlk hxk hln hbt gu hu3
      have hX := hX5.b' hBr
      replace hBw := hBw.trans (hBr.mono hBw.size)
      clear hX5 hBr hyk
      have hinc : i + 1 ≤ 6 := by omega
      by_cases h3 : (i : Int) < (ts.length : Int)
      ·by_cases h4 : (i : Int) < (os.length : Int)
       ·obtain ⟨ai, hai⟩ := get_some ts i (by omega)
        obtain ⟨ui, hui⟩ := get_some os i (by omega)
        obtain ⟨ba, oa, rfl, hba, hca0⟩ := hts.at_.row i ai hai
        obtain ⟨bo, oo, rfl, hbo, hco0⟩ := hos.at_.row i ui hui
        have hca : w.cell? ⟨ba, oa + i, none⟩ = some (.int .i64 ai) := hca0
        have hco : w.cell? ⟨bo, oo + i, none⟩ = some (.float .f64 ui) := hco0
        have hub := hos.small.at i ui hui
        have gai := hts.good ai (List.mem_of_getElem? hai)
        unfold goodI at gai
        obtain ⟨x0, x1, x2, x3, x4, x5⟩ := cells6 hX.box
        have hbr := below_alloc wr (.cells #[.int .i64 y.n, .slice (some ⟨g1, 0, none⟩) z.c.length c1, .slice (some ⟨gI, 0, none⟩) y.ids.length kI, .slice (some ⟨gG, 0, none⟩) y.g.length kG, .slice (some ⟨g4, 0, none⟩) z.r.length c4, .bool y.bad] 26)
        have gr := heap_alloc_new wr (.cells #[.int .i64 y.n, .slice (some ⟨g1, 0, none⟩) z.c.length c1, .slice (some ⟨gI, 0, none⟩) y.ids.length kI, .slice (some ⟨gG, 0, none⟩) y.g.length kG, .slice (some ⟨g4, 0, none⟩) z.r.length c4, .bool y.bad] 26)
        have hvl : vals.length ≤ MAXG := by rw [hX.len]; exact hX.ok.lg
        unfold MAXG at hvl
        have hlc := lists_any (wr.alloc (.cells #[.int .i64 y.n, .slice (some ⟨g1, 0, none⟩) z.c.length c1, .slice (some ⟨gI, 0, none⟩) y.ids.length kI, .slice (some ⟨gG, 0, none⟩) y.g.length kG, .slice (some ⟨g4, 0, none⟩) z.r.length c4, .bool y.bad] 26)) (some ⟨wr.heap.size, 0, none⟩) 1 1 _ (hX.lists hbr gr) rfl (by decide) (by simp [allZ, ZL.all]; omega)
        have hall : allZ [⟨some ⟨g1, 0, none⟩, z.c.length, c1, some ⟨g4, 0, none⟩, z.r.length, c4, some ⟨gG, 0, none⟩, kG, vals⟩] = .slice (some ⟨g1, 0, none⟩) z.c.length c1 :: .slice (some ⟨g4, 0, none⟩) z.r.length c4 :: vals := by simp [allZ, ZL.all]
        rw [hall] at hlc
        generalize hvs : (Value.slice (some ⟨g1, 0, none⟩) z.c.length c1 :: Value.slice (some ⟨g4, 0, none⟩) z.r.length c4 :: vals) = vs at hlc
        have hvsl : vs.length = vals.length + 2 := by rw [← hvs]; rfl
        clear hai hui hca0 hco0 hall
        go_wp2_with fail
        refine hlc.mono ?_
        rintro e w8 ⟨v8, rfl, ho8, hb8⟩
        obtain ⟨A8, c8, rfl, hL8⟩ := ho8.lat
        obtain ⟨L, hL⟩ : ∃ L, vs.length = L := ⟨_, rfl⟩
        have hL0 : 0 < L := by omega
        have hL1 : L ≤ 5864062014636 := by omega
        obtain ⟨t, ht, ht1, ht2, q, hq, hqL⟩ := idx_tmod ai L hL0
        obtain ⟨vq, hvq⟩ := get_some vs q (by omega)
        obtain ⟨us, hF, husl⟩ := hX.all q vq (by rw [hvs]; exact hvq)
        obtain ⟨b8, o8, rfl, hb8l, hcq0⟩ := hL8.row q vq hvq
        have hcq : w8.cell? ⟨b8, o8 + q, none⟩ = some vq := hcq0
        have hF8 := (hF.below hbr).below hb8
        have hX8 := (hX.b' hbr).b' hb8
        have hB8 := (hBw.trans (hbr.mono hBw.size)).trans (hb8.mono (hBw.trans (hbr.mono hBw.size)).size)
        rw [hL]
        unfold MAXF at husl
        clear hF hvq hcq0 hX hBw hbr hb8 hL8 ho8 hlc gr x0 x1 x2 x3 x4 x5 hvs hvsl hL
        replace hca := (hB8.cell (p := ⟨ba, oa + i, none⟩) hba).trans hca
        replace hco := (hB8.cell (p := ⟨bo, oo + i, none⟩) hbo).trans hco
        have hqL' : (q : Int) < (L : Int) := by omega
        have hLi : (1 : Int) ≤ (L : Int) := by omega
        by_cases hn : 0 < us.length
        ·obtain ⟨s, hs, hs1, hs2, m, hm, hmL⟩ := idx_tmod (ai.tdiv 7) us.length hn
         obtain ⟨gw, capw, yv, cs, rfl, hlo, hgw, hcw, hfw⟩ := hF8.at (j := m) hmL
         have hmL' : (m : Int) < (us.length : Int) := by omega
         have hni : (1 : Int) ≤ (us.length : Int) := by omega
         have hX9 := XIn.set (W := w8.drew) (o := m) (hX8.b' (Below.refl _ _).drew) hgw hub
         have hB9 := hB8.drew.setCell (p := ⟨gw, m, none⟩) hlo (.float .f64 ui)
         clear hX8 hB8 hF8 hgw
         have hw7 : IntKind.i64.wrap (ai.tdiv 7) = ai.tdiv 7 := wrap7 ai gai
         have hws : IntKind.i64.wrap (s + (us.length : Int)) = s + (us.length : Int) := by
          rw [IntKind.wrap_i64]
          omega
         have hm0 : (0 : Int) ≤ (m : Int) := by omega
         have hne : us ≠ [] := fun e => by rw [e] at hn; simp at hn
         have hB8' := Below.refl w8.heap.size w8
         go_wp2_with fail
         have hS : (fun w' => w'.cell? ⟨b8, o8 + q, none⟩ = some (.slice (some ⟨gw, 0, none⟩) us.length capw) ∧ w'.cell? ⟨ba, oa + i, none⟩ = some (.int .i64 ai) ∧ w'.cell? ⟨bo, oo + i, none⟩ = some (.float .f64 ui)) w8.drew := ⟨hcq, hca, hco⟩
         refine late_begin (fun w' => w'.cell? ⟨b8, o8 + q, none⟩ = some (.slice (some ⟨gw, 0, none⟩) us.length capw) ∧ w'.cell? ⟨ba, oa + i, none⟩ = some (.int .i64 ai) ∧ w'.cell? ⟨bo, oo + i, none⟩ = some (.float .f64 ui)) [20] (by kernel_rfl) ?_
         refine late_take (i := 0) (v := ?_) (some 138) rfl rfl (by kernel_rfl) (by kernel_rfl) (by kernel_rfl) (by kernel_rfl) (fun _ _ _ h => h) (by kernel_rfl) hS ?_ ?_
         rotate_left
         ·(intro w hSw; (try dsimp only at hSw); go_simp; try rfl)
         try simp only [Act.put, List.setIfInBounds_toArray, List.set_cons_zero, List.set_cons_succ]
         refine late_take (i := 1) (v := ?_) (some 139) rfl rfl (by kernel_rfl) (by kernel_rfl) (by kernel_rfl) (by kernel_rfl) (fun _ _ _ h => h) (by kernel_rfl) hS ?_ ?_
         rotate_left
         ·(intro w hSw; (try dsimp only at hSw); go_simp; try rfl)
         try simp only [Act.put, List.setIfInBounds_toArray, List.set_cons_zero, List.set_cons_succ]
         refine late_take (i := 2) (v := ?_) (some 140) rfl rfl (by kernel_rfl) (by kernel_rfl) (by kernel_rfl) (by kernel_rfl) (fun _ _ _ h => h) (by kernel_rfl) hS ?_ ?_
         rotate_left
         ·(intro w hSw; (try dsimp only at hSw); go_simp; try rfl)
         try simp only [Act.put, List.setIfInBounds_toArray, List.set_cons_zero, List.set_cons_succ]
         refine late_take (i := 3) (v := ?_) (some 141) rfl rfl (by kernel_rfl) (by kernel_rfl) (by kernel_rfl) (by kernel_rfl) (fun _ _ _ h => h) (by kernel_rfl) hS ?_ ?_
         rotate_left
         ·(intro w hSw; (try dsimp only at hSw); go_simp; try rfl)
         try simp only [Act.put, List.setIfInBounds_toArray, List.set_cons_zero, List.set_cons_succ]
         refine late_take (i := 4) (v := ?_) (some 142) rfl rfl (by kernel_rfl) (by kernel_rfl) (by kernel_rfl) (by kernel_rfl) (fun _ _ _ h => h) (by kernel_rfl) hS ?_ ?_
         rotate_left
         ·(intro w hSw; (try dsimp only at hSw); go_simp; try rfl)
         try simp only [Act.put, List.setIfInBounds_toArray, List.set_cons_zero, List.set_cons_succ]
         refine late_take (i := 5) (v := ?_) (some 143) rfl rfl (by kernel_rfl) (by kernel_rfl) (by kernel_rfl) (by kernel_rfl) (fun _ _ _ h => h) (by kernel_rfl) hS ?_ ?_
         rotate_left
         ·(intro w hSw; (try dsimp only at hSw); go_simp; try rfl)
         try simp only [Act.put, List.setIfInBounds_toArray, List.set_cons_zero, List.set_cons_succ]
         refine late_take (i := 6) (v := ?_) (some 144) rfl rfl (by kernel_rfl) (by kernel_rfl) (by kernel_rfl) (by kernel_rfl) (fun _ _ _ h => h) (by kernel_rfl) hS ?_ ?_
         rotate_left
         ·(intro w hSw; (try dsimp only at hSw); go_simp; try rfl)
         try simp only [Act.put, List.setIfInBounds_toArray, List.set_cons_zero, List.set_cons_succ]
         refine late_take (i := 7) (v := ?_) (some 145) rfl rfl (by kernel_rfl) (by kernel_rfl) (by kernel_rfl) (by kernel_rfl) (fun _ _ _ h => h) (by kernel_rfl) hS ?_ ?_
         rotate_left
         ·(intro w hSw; (try dsimp only at hSw); go_simp; try rfl)
         try simp only [Act.put, List.setIfInBounds_toArray, List.set_cons_zero, List.set_cons_succ]
         refine late_take (i := 8) (v := ?_) (some 146) rfl rfl (by kernel_rfl) (by kernel_rfl) (by kernel_rfl) (by kernel_rfl) (fun _ _ _ h => h) (by kernel_rfl) hS ?_ ?_
         rotate_left
         ·(intro w hSw; (try dsimp only at hSw); go_simp; try rfl)
         try simp only [Act.put, List.setIfInBounds_toArray, List.set_cons_zero, List.set_cons_succ]
         refine late_take (i := 9) (v := ?_) (some 147) rfl rfl (by kernel_rfl) (by kernel_rfl) (by kernel_rfl) (by kernel_rfl) (fun _ _ _ h => h) (by kernel_rfl) hS ?_ ?_
         rotate_left
         ·(intro w hSw; (try dsimp only at hSw); go_simp; try rfl)
         try simp only [Act.put, List.setIfInBounds_toArray, List.set_cons_zero, List.set_cons_succ]
         refine late_take (i := 10) (v := ?_) (some 148) rfl rfl (by kernel_rfl) (by kernel_rfl) (by kernel_rfl) (by kernel_rfl) (fun _ _ _ h => h) (by kernel_rfl) hS ?_ ?_
         rotate_left
         ·(intro w hSw; (try dsimp only at hSw); go_simp; try rfl)
         try simp only [Act.put, List.setIfInBounds_toArray, List.set_cons_zero, List.set_cons_succ]
         refine late_take (i := 11) (v := ?_) (some 149) rfl rfl (by kernel_rfl) (by kernel_rfl) (by kernel_rfl) (by kernel_rfl) (fun _ _ _ h => h) (by kernel_rfl) hS ?_ ?_
         rotate_left
         ·(intro w hSw; (try dsimp only at hSw); go_simp; try rfl)
         try simp only [Act.put, List.setIfInBounds_toArray, List.set_cons_zero, List.set_cons_succ]
         refine late_take (i := 12) (v := ?_) (some 150) rfl rfl (by kernel_rfl) (by kernel_rfl) (by kernel_rfl) (by kernel_rfl) (fun _ _ _ h => h) (by kernel_rfl) hS ?_ ?_
         rotate_left
         ·(intro w hSw; (try dsimp only at hSw); go_simp; try rfl)
         try simp only [Act.put, List.setIfInBounds_toArray, List.set_cons_zero, List.set_cons_succ]
         refine late_take (i := 13) (v := ?_) (some 151) rfl rfl (by kernel_rfl) (by kernel_rfl) (by kernel_rfl) (by kernel_rfl) (fun _ _ _ h => h) (by kernel_rfl) hS ?_ ?_
         rotate_left
         ·(intro w hSw; (try dsimp only at hSw); go_simp; try rfl)
         try simp only [Act.put, List.setIfInBounds_toArray, List.set_cons_zero, List.set_cons_succ]
         refine late_take (i := 14) (v := ?_) (some 152) rfl rfl (by kernel_rfl) (by kernel_rfl) (by kernel_rfl) (by kernel_rfl) (fun _ _ _ h => h) (by kernel_rfl) hS ?_ ?_
         rotate_left
         ·(intro w hSw; (try dsimp only at hSw); go_simp; try rfl)
         try simp only [Act.put, List.setIfInBounds_toArray, List.set_cons_zero, List.set_cons_succ]
         refine late_take (i := 15) (v := ?_) (some 153) rfl rfl (by kernel_rfl) (by kernel_rfl) (by kernel_rfl) (by kernel_rfl) (fun _ _ _ h => h) (by kernel_rfl) hS ?_ ?_
         rotate_left
         ·(intro w hSw; (try dsimp only at hSw); go_simp; try rfl)
         try simp only [Act.put, List.setIfInBounds_toArray, List.set_cons_zero, List.set_cons_succ]
         refine late_take (i := 16) (v := ?_) (some 154) rfl rfl (by kernel_rfl) (by kernel_rfl) (by kernel_rfl) (by kernel_rfl) (fun _ _ _ h => h) (by kernel_rfl) hS ?_ ?_
         rotate_left
         ·(intro w hSw; (try dsimp only at hSw); go_simp; try rfl)
         try simp only [Act.put, List.setIfInBounds_toArray, List.set_cons_zero, List.set_cons_succ]
         refine late_take (i := 17) (v := ?_) (some 155) rfl rfl (by kernel_rfl) (by kernel_rfl) (by kernel_rfl) (by kernel_rfl) (fun _ _ _ h => h) (by kernel_rfl) hS ?_ ?_
         rotate_left
         ·(intro w hSw; (try dsimp only at hSw); go_simp; try rfl)
         try simp only [Act.put, List.setIfInBounds_toArray, List.set_cons_zero, List.set_cons_succ]
         refine late_take (i := 18) (v := ?_) (some 156) rfl rfl (by kernel_rfl) (by kernel_rfl) (by kernel_rfl) (by kernel_rfl) (fun _ _ _ h => h) (by kernel_rfl) hS ?_ ?_
         rotate_left
         ·(intro w hSw; (try dsimp only at hSw); go_simp; try rfl)
         try simp only [Act.put, List.setIfInBounds_toArray, List.set_cons_zero, List.set_cons_succ]
         refine late_take (i := 19) (v := ?_) (some 157) rfl rfl (by kernel_rfl) (by kernel_rfl) (by kernel_rfl) (by kernel_rfl) (fun _ _ _ h => h) (by kernel_rfl) hS ?_ ?_
         rotate_left
         ·(intro w hSw; (try dsimp only at hSw); go_simp; try rfl)
         try simp only [Act.put, List.setIfInBounds_toArray, List.set_cons_zero, List.set_cons_succ]
         refine late_one (i := 20) rfl (by kernel_rfl) ?_
         intro K hK
         have hcw2 : w8.drew.cell? ⟨gw, m, none⟩ = some (.float .f64 yv) := hcw
         have hfw2 : w8.drew.frozen? ⟨gw, m, none⟩ = false := hfw
         go_simp
         try show K _ _
         refine hK.out _ _ (Or.inl (by decide)) ?_
         clear hK K
         try simp only [Act.put, List.setIfInBounds_toArray, List.set_cons_zero, List.set_cons_succ]
         refine late_done (by kernel_rfl) ?_ _
         go_wp2_with fail
         go_roundw
         case rel => exact ⟨i + 1, _, hinc, by go_num, hX9, hB9⟩
         case measure => simp [intOf]; omega
        ·obtain ⟨A9, c9, e9, _⟩ := hF8.lat
         have hn0 : us.length = 0 := by omega
         rw [hn0] at e9
         subst e9
         clear hF8 husl hn hn0
         go_wp2_with fail
         go_roundw
         case rel => exact ⟨i + 1, y, hinc, by go_num, hX8, hB8⟩
         case measure => simp [intOf]; omega
       ·have h4' : decide ((i : Int) < (os.length : Int)) = false := decide_eq_false h4
        go_wp2_with fail
        go_roundw
        case rel => exact ⟨i + 1, y, hinc, by go_num, hX, hBw⟩
        case measure => simp [intOf]; omega
      ·have h3' : decide ((i : Int) < (ts.length : Int)) = false := decide_eq_false h3
       go_wp2_with fail
       go_roundw
       case rel => exact ⟨i + 1, y, hinc, by go_num, hX, hBw⟩
       case measure => simp [intOf]; omega
   ·have h2' : decide ((i : Int) < 6) = false := decide_eq_false h2
    go_wp2_with fail
    refine (started_any _).mono ?_
    rintro e w3 ⟨rfl, hb⟩
    go_wp2_with fail
    go_ret
    exact ⟨rfl, hBw.trans (hb.mono hBw.size)⟩
  ·have h1' : decide ((i : Int) ≤ (ts.length : Int)) = false := decide_eq_false h1
   go_wp2_with fail
   refine (started_any _).mono ?_
   rintro e w3 ⟨rfl, hb⟩
   go_wp2_with fail
   go_ret
   exact ⟨rfl, hBw.trans (hb.mono hBw.size)⟩
end Go.Proofs.YtpfbgenefjhcjaaGreatDoor
