/- zono.Plus. -/
import Derived.Test.YtpfbgenefjhcjaaGreatDoorZoPlusL
import Derived.Lib.SliceRun
namespace Go.Proofs.YtpfbgenefjhcjaaGreatDoor
set_option linter.unusedVariables false
set_option linter.unusedSimpArgs false
open Go Go.RowKit
attribute [local go_sem] run_store_flt
set_option maxRecDepth 100000
theorem ZB.set0 {w : World} {b : Nat} {v0 v1 v2 v3 v4 v5 : Value} (h : ZB w b v0 v1 v2 v3 v4 v5) (u : Value) : ZB (w.setCell ⟨b, 0, none⟩ u) b u v1 v2 v3 v4 v5 ∧ w.grownBy (w.setCell ⟨b, 0, none⟩ u) (some b) := ⟨heap_setCell_same w b 0 _ _ _ h, grown_set (grown_refl w _) _ _⟩
theorem info_ptr : (Tryz.prog.info? 112).map (fun i => (i.zero, i.size, i.bytes)) = some (some (.pointer none), 1, 8) := by kernel_rfl
theorem make_ptrs (n : Nat) (hn : n ≤ 1000000) (w : World) : (Instr.makeSlice 146 (.int .i64 (n : Int)) (.int .i64 (n : Int))).run Tryz.prog w = .ok (.slice (some ⟨w.heap.size, 0, none⟩) n n) (w.alloc (.cells (madeCells #[.pointer none] n) 112)) := by
 obtain ⟨i0, hi0, hz0, hz1, hz2⟩ := info_parts info_ptr
 have hr := run_make (P := Tryz.prog) w 146 112 i0 _ Tryz.underlying146 hi0 hz0 .i64 .i64 n n (by omega) (Int.le_refl _) (by rw [hz2]; omega) (by omega)
 simp only [Int.toNat_natCast] at hr
 rw [hz1, Nat.mul_one] at hr
 exact hr
set_option maxHeartbeats 32000000 in
theorem Plus_any (w : World) (va vb : Value) (a b : ZD) (ha : ZIs w va a) (hb : ZIs w vb b) (ka : ZOk a) (kb : ZOk b) :
  Calls Tryz.prog 54 #[va, vb] w fun e w' => ∃ v, e = .returned v ∧ ZOwn w.heap.size w' v (plusD a b) ∧ Below w.heap.size w w' := by
 obtain ⟨A, B, C, D, kA, kB, kC, kD, rfl, hc⟩ := ha
 obtain ⟨A2, B2, C2, D2, kA2, kB2, kC2, kD2, rfl, hc2⟩ := hb
 obtain ⟨f0, f1, f2, f3, f4⟩ := three_blocks w (.cells #[.int .i64 a.n, .slice A a.c.length kA, .slice B a.ids.length kB, .slice C a.g.length kC, .slice D a.r.length kD, .bool a.bad] 26) (.cells #[.int .i64 b.n, .slice A2 b.c.length kA2, .slice B2 b.ids.length kB2, .slice C2 b.g.length kC2, .slice D2 b.r.length kD2, .bool b.bad] 26) (.cells #[.int .i64 0, .slice none 0 0, .slice none 0 0, .slice none 0 0, .slice none 0 0, .bool false] 26)
 obtain ⟨sa, hsa⟩ : ∃ s, sizeD a = s := ⟨_, rfl⟩
 obtain ⟨sb, hsb⟩ : ∃ s, sizeD b = s := ⟨_, rfl⟩
 obtain ⟨sm, hsm0⟩ : ∃ s, sameSize a b = s := ⟨_, rfl⟩
 have HSM := Lib.hid (show sm = if sa = sb then sa else 0 by rw [← hsm0, ← hsa, ← hsb]; rfl)
 have HSM0 := Lib.hid hsm0
 have hbad := fun W (hb : Below w.heap.size w W) => bad_any W _ a ⟨A, B, C, D, kA, kB, kC, kD, rfl, hc.below hb⟩ ka
 have hbad2 := fun W (hb : Below w.heap.size w W) => bad_any W _ b ⟨A2, B2, C2, D2, kA2, kB2, kC2, kD2, rfl, hc2.below hb⟩ kb
 unfold zval lostV at hbad hbad2
 rw [hsa] at hbad
 rw [hsb] at hbad2
 clear hsa hsb hsm0
 unfold zval
 go_enter Tryz.func54, Tryz.ntmps54
 go_upto_region 1 with fail
 generalize ((w.alloc (.cells #[.int .i64 a.n, .slice A a.c.length kA, .slice B a.ids.length kB, .slice C a.g.length kC, .slice D a.r.length kD, .bool a.bad] 26)).alloc (.cells #[.int .i64 b.n, .slice A2 b.c.length kA2, .slice B2 b.ids.length kB2, .slice C2 b.g.length kC2, .slice D2 b.r.length kD2, .bool b.bad] 26)).alloc (.cells #[.int .i64 0, .slice none 0 0, .slice none 0 0, .slice none 0 0, .slice none 0 0, .bool false] 26) = W1 at *
 obtain ⟨h0, e0⟩ : ∃ h, w.heap.size = h := ⟨_, rfl⟩
 rw [e0] at f0 f1 f2 f3 ⊢
 obtain ⟨h1, e1⟩ : ∃ h, h0 + 1 = h := ⟨_, rfl⟩
 rw [e1] at f1 f2 f3 ⊢
 obtain ⟨h2, e2⟩ : ∃ h, h1 + 1 = h := ⟨_, rfl⟩
 rw [e2] at f2 f3 ⊢
 obtain ⟨y0, y1, y2, y3, y4, y5⟩ := cells6 f0
 go_wp2_with fail
 refine (hbad W1 f4).mono ?_
 rintro e w1 ⟨rfl, hb1⟩
 have hb2 := hb1.trans ((below_alloc w1 (.cells #[.int .i64 sa, .slice none 0 0, .slice none 0 0, .slice none 0 0, .slice none 0 0, .bool true] 26)).mono hb1.size)
 have hB2 := f4.trans (hb2.mono f4.size)
 have k0 : ZB (w1.alloc (.cells #[.int .i64 sa, .slice none 0 0, .slice none 0 0, .slice none 0 0, .slice none 0 0, .bool true] 26)) h0 _ _ _ _ _ _ := ZB.below f0 hb2
 have k1 : ZB (w1.alloc (.cells #[.int .i64 sa, .slice none 0 0, .slice none 0 0, .slice none 0 0, .slice none 0 0, .bool true] 26)) h1 _ _ _ _ _ _ := ZB.below f1 hb2
 have k2 : ZB (w1.alloc (.cells #[.int .i64 sa, .slice none 0 0, .slice none 0 0, .slice none 0 0, .slice none 0 0, .bool true] 26)) h2 _ _ _ _ _ _ := ZB.below f2 hb2
 have kw : ZB (w1.alloc (.cells #[.int .i64 sa, .slice none 0 0, .slice none 0 0, .slice none 0 0, .slice none 0 0, .bool true] 26)) w1.heap.size _ _ _ _ _ _ := ZB.new w1 _ _ _ _ _ _
 have hlw : h2 + 1 ≤ w1.heap.size := by have := hb1.size; omega
 go_upto_region 2 with fail
 clear f0 f1 f2 f3 f4 hb1 hb2 hbad y0 y1 y2 y3 y4 y5
 generalize w1.alloc (.cells #[.int .i64 sa, .slice none 0 0, .slice none 0 0, .slice none 0 0, .slice none 0 0, .bool true] 26) = W2 at *
 generalize w1.heap.size = xw at *
 have hS : ∀ W', Below W2.heap.size W2 W' → (fun w' => (w'.cell? ⟨h1, 0, none⟩ = some (.int .i64 b.n) ∧ w'.cell? ⟨h1, 1, none⟩ = some (.slice A2 b.c.length kA2) ∧ w'.cell? ⟨h1, 2, none⟩ = some (.slice B2 b.ids.length kB2) ∧ w'.cell? ⟨h1, 3, none⟩ = some (.slice C2 b.g.length kC2) ∧ w'.cell? ⟨h1, 4, none⟩ = some (.slice D2 b.r.length kD2) ∧ w'.cell? ⟨h1, 5, none⟩ = some (.bool b.bad)) ∧ w'.cell? ⟨xw, 0, none⟩ = some (.int .i64 sa)) W' := fun W' hb => ⟨cells6 (ZB.below k1 hb), (cells6 (ZB.below kw hb)).1⟩
 have hd := (Below.refl W2.heap.size W2).drew
 refine late_begin (fun w' => (w'.cell? ⟨h1, 0, none⟩ = some (.int .i64 b.n) ∧ w'.cell? ⟨h1, 1, none⟩ = some (.slice A2 b.c.length kA2) ∧ w'.cell? ⟨h1, 2, none⟩ = some (.slice B2 b.ids.length kB2) ∧ w'.cell? ⟨h1, 3, none⟩ = some (.slice C2 b.g.length kC2) ∧ w'.cell? ⟨h1, 4, none⟩ = some (.slice D2 b.r.length kD2) ∧ w'.cell? ⟨h1, 5, none⟩ = some (.bool b.bad)) ∧ w'.cell? ⟨xw, 0, none⟩ = some (.int .i64 sa)) [] (by kernel_rfl) ?_
 refine lateT 0 (some 28) rfl rfl (hS _ hd) ?_
 try simp only [Act.put, lA, lZ, lC]
 refine lateT 1 (some 29) rfl rfl (hS _ hd) ?_
 try simp only [Act.put, lA, lZ, lC]
 refine lateT 2 (some 30) rfl rfl (hS _ hd) ?_
 try simp only [Act.put, lA, lZ, lC]
 refine late_one (i := 3) rfl (by kernel_rfl) ?_
 intro K hK
 go_simp
 refine (hbad2 _ (hB2.trans (hd.mono hB2.size))).mono ?_
 rintro e w3 ⟨rfl, hb3⟩
 have f3 := hd.trans (hb3.mono hd.size)
 try show K _ _
 refine hK.out _ _ (Or.inr (hS _ f3)) ?_
 clear hK K
 try simp only [Act.put, lA, lZ, lC]
 refine lateT 4 (some 32) rfl rfl (hS _ f3) ?_
 try simp only [Act.put, lA, lZ, lC]
 refine lateT 5 (some 33) rfl rfl (hS _ f3) ?_
 try simp only [Act.put, lA, lZ, lC]
 refine late_done (by kernel_rfl) ?_ _
 clear hS hd hbad2
 have hB3 := hB2.trans (f3.mono hB2.size)
 have k03 := ZB.below k0 f3
 have k13 := ZB.below k1 f3
 have k23 := ZB.below k2 f3
 have kw3 := ZB.below kw f3
 clear k0 k1 k2 kw hB2 f3
 go_upto_if 33 with fail
 go_cut [33] from 34 to 34 (fun _ wx => ZB wx h0 (.int .i64 a.n) (.slice A a.c.length kA) (.slice B a.ids.length kB) (.slice C a.g.length kC) (.slice D a.r.length kD) (.bool a.bad) ∧ ZB wx h1 (.int .i64 b.n) (.slice A2 b.c.length kA2) (.slice B2 b.ids.length kB2) (.slice C2 b.g.length kC2) (.slice D2 b.r.length kD2) (.bool b.bad) ∧ ZB wx h2 (.int .i64 0) (.slice none 0 0) (.slice none 0 0) (.slice none 0 0) (.slice none 0 0) (.bool false) ∧ ZB wx xw (.int .i64 sm) (.slice none 0 0) (.slice none 0 0) (.slice none 0 0) (.slice none 0 0) (.bool true) ∧ Below w.heap.size w wx)
 case first =>
  by_cases hs : sa = sb
  ·have hs' : decide (sa = sb) = true := decide_eq_true hs
   have hm : sa = sm := by rw [HSM.out, if_pos hs]
   have HM := Lib.hid hm
   clear hm
   go_wp2_with fail
   go_meet
   case rel => exact ⟨k03, k13, k23, HM.out ▸ kw3, hB3⟩
  ·have hs' : decide (sa = sb) = false := decide_eq_false hs
   have HM := Lib.hid (show sm = 0 by rw [HSM.out, if_neg hs])
   obtain ⟨y0, y1, y2, y3, y4, y5⟩ := cells6 kw3
   have hfr := fun j => frozen_of_row w3 _ j _ _ kw3
   obtain ⟨q1, q2⟩ := ZB.set0 kw3 (.int .i64 0)
   go_wp2_with fail
   go_meet
   case rel =>
    rw [HM.out]
    have hz : ∀ k, some xw = some k → Typed w3 k 26 := fun k e => by cases e; exact kw3.typed
    exact ⟨(q2.block h0 (ZB.lt k03) (fun e => by cases e; omega)).trans k03, (q2.block h1 (ZB.lt k13) (fun e => by cases e; omega)).trans k13, (q2.block h2 (ZB.lt k23) (fun e => by cases e; omega)).trans k23, q1, hB3.trans (below_row q2 (by omega) hB3.size)⟩
 case rest =>
  obtain ⟨k0, k1, k2, kw, hB⟩ := hcut
  clear k03 k13 k23 kw3 hB3
  obtain ⟨y0, y1, y2, y3, y4, y5⟩ := cells6 k0
  have hgd1 := good_any wc _ a ⟨A, B, C, D, kA, kB, kC, kD, rfl, hc.below hB⟩ ka
  unfold zval at hgd1
  go_wp2_with fail
  refine hgd1.mono ?_
  rintro e w4 ⟨rfl, hb4⟩
  have l0 := ZB.below k0 hb4
  have l1 := ZB.below k1 hb4
  have l2 := ZB.below k2 hb4
  have lw := ZB.below kw hb4
  have hB4 := hB.trans (hb4.mono hB.size)
  clear y0 y1 y2 y3 y4 y5 hgd1 k0 k1 k2 kw hB hb4
  cases hga : goodD a with
  | false =>
   obtain ⟨lw0, lw1, lw2, lw3, lw4, lw5⟩ := cells6 lw
   obtain ⟨ly0, ly1, ly2, ly3, ly4, ly5⟩ := cells6 l2
   have lfr := fun j => frozen_of_row _ _ j _ _ l2
   have HE := Lib.hid (show plusD a b = lostZ sm from by unfold plusD; rw [if_neg (by rintro ⟨h1, h2, h3⟩; first | exact absurd h1 (by rw [hga]; decide) | exact absurd h2 (by rw [hgb]; decide) | exact hne h3), HSM0.out])
   go_wp2_with fail
   obtain ⟨q1, q2⟩ := set6 l2 (.int .i64 sm) (.slice none 0 0) (.slice none 0 0) (.slice none 0 0) (.slice none 0 0) (.bool true)
   obtain ⟨c0, c1, c2, c3, c4, c5⟩ := cells6 q1
   refine bodyPost_ret (v := .agg #[.int .i64 sm, .slice none 0 0, .slice none 0 0, .slice none 0 0, .slice none 0 0, .bool true]) (by simp [results, Tryz.results54, go_sem, c0, c1, c2, c3, c4, c5]) rfl ?_
   rw [HE.out]
   exact ⟨_, rfl, lost_own _ _ _, hB4.trans (below_row q2 (by omega) hB4.size)⟩
  | true =>
   obtain ⟨y0, y1, y2, y3, y4, y5⟩ := cells6 l1
   have hgd2 := good_any w4 _ b ⟨A2, B2, C2, D2, kA2, kB2, kC2, kD2, rfl, hc2.below hB4⟩ kb
   unfold zval at hgd2
   go_wp2_with fail
   refine hgd2.mono ?_
   rintro e w5 ⟨rfl, hb5⟩
   have m0 := ZB.below l0 hb5
   have m1 := ZB.below l1 hb5
   have m2 := ZB.below l2 hb5
   have mw := ZB.below lw hb5
   have hB5 := hB4.trans (hb5.mono hB4.size)
   clear y0 y1 y2 y3 y4 y5 hgd2 l0 l1 l2 lw hB4 hb5
   cases hgb : goodD b with
   | false =>
    obtain ⟨lw0, lw1, lw2, lw3, lw4, lw5⟩ := cells6 mw
    obtain ⟨ly0, ly1, ly2, ly3, ly4, ly5⟩ := cells6 m2
    have lfr := fun j => frozen_of_row _ _ j _ _ m2
    have HE := Lib.hid (show plusD a b = lostZ sm from by unfold plusD; rw [if_neg (by rintro ⟨h1, h2, h3⟩; first | exact absurd h1 (by rw [hga]; decide) | exact absurd h2 (by rw [hgb]; decide) | exact hne h3), HSM0.out])
    go_wp2_with fail
    obtain ⟨q1, q2⟩ := set6 m2 (.int .i64 sm) (.slice none 0 0) (.slice none 0 0) (.slice none 0 0) (.slice none 0 0) (.bool true)
    obtain ⟨c0, c1, c2, c3, c4, c5⟩ := cells6 q1
    refine bodyPost_ret (v := .agg #[.int .i64 sm, .slice none 0 0, .slice none 0 0, .slice none 0 0, .slice none 0 0, .bool true]) (by simp [results, Tryz.results54, go_sem, c0, c1, c2, c3, c4, c5]) rfl ?_
    rw [HE.out]
    exact ⟨_, rfl, lost_own _ _ _, hB5.trans (below_row q2 (by omega) hB5.size)⟩
   | true =>
    obtain ⟨y0, y1, y2, y3, y4, y5⟩ := cells6 m0
    obtain ⟨z0, z1, z2, z3, z4, z5⟩ := cells6 m1
    by_cases hne : a.n = b.n
    ·have hne' : decide (a.n = b.n) = true := decide_eq_true hne
     have hza := (goodD_iff a).1 hga
     have hzb := (goodD_iff b).1 hgb
     have ha1 := hza.n1
     have ha2 := hza.n2
     obtain ⟨n, hn⟩ : ∃ n : Nat, a.n = (n : Int) := ⟨a.n.toNat, by omega⟩
     have hn2 : b.n = (n : Int) := by rw [← hne, hn]
     go_upto_region 6 with fail
     clear y0 y1 y2 y3 y4 y5 z0 z1 z2 z3 z4 z5
     rw [hn] at m0
     rw [hn2] at m1
     have HNE := Lib.hid (And.intro hne (And.intro hga hgb))
     clear hne hne' hga hgb
     obtain ⟨y0, y1, y2, y3, y4, y5⟩ := cells6 m0
     have hmk := make_ptrs n (by omega)
     go_upto_region 7 with fail
     have kp : PtB (w5.alloc (.cells (madeCells #[.pointer none] n) 112)) w5.heap.size n [] := ⟨_, World.alloc_heap_new _ _, size_madeCells _ _, fun j b hb => by simp at hb⟩
     have hB6 := below_alloc w5 (.cells (madeCells #[.pointer none] n) 112)
     generalize w5.alloc (.cells (madeCells #[.pointer none] n) 112) = W6 at *
     obtain ⟨go, hgo⟩ : ∃ g, w5.heap.size = g := ⟨_, rfl⟩
     rw [hgo] at kp ⊢
     have hO0 : Offs W6 go n [] (fun i => if i < 0 then (fz (a.r.getD i 0) + fz (b.r.getD i 0)) else 0) := ⟨kp, fun j b hb => by simp at hb, fun j k b c hb => by simp at hb, fun b hb => by simp at hb⟩
     clear kp hmk y0 y1 y2 y3 y4 y5
     go_wp2_with fail
     go_loopw [56] (fun kk wr => ∃ (k : Nat) (bs : List Nat), k ≤ n ∧ kk = .int .i64 (k : Nat) ∧ bs.length = k ∧ Offs wr go n bs (fun i => if i < k then (fz (a.r.getD i 0) + fz (b.r.getD i 0)) else 0) ∧ Below w5.heap.size w5 wr) (fun kk _ => n - (intOf kk).toNat)
     case atStart => exact ⟨0, [], Nat.zero_le _, rfl, rfl, hO0, hB6⟩
     case round =>
      obtain ⟨k, bs, hk, rfl, hbl, hO, hBr⟩ := hrel
      have HBL := Lib.hid hbl
      clear hbl
      clear hO0 hB6
      by_cases hlt : k < n
      ·have hlt' : (k : Int) < (n : Int) := by omega
       obtain ⟨u, hu⟩ := get_some a.r k (by have := hza.lenR; omega)
       obtain ⟨v, hv⟩ := get_some b.r k (by have := hzb.lenR; omega)
       have hgu : a.r.getD k 0 = u := by rw [List.getD_eq_getElem?_getD, hu, Option.getD_some]
       have hgv : b.r.getD k 0 = v := by rw [List.getD_eq_getElem?_getD, hv, Option.getD_some]
       have nu := hza.numR u (List.mem_of_getElem? hu)
       have nv := hzb.numR v (List.mem_of_getElem? hv)
       have u64 := ka.r.at k u hu
       have v64 := kb.r.at k v hv
       have hfu := fz_lt u nu
       have hfv := fz_lt v nv
       have hB6 := hB5.trans (hBr.mono hB5.size)
       obtain ⟨bR, oR, rfl, ltr0, cr0⟩ := hc.r.at (Below.refl w.heap.size w) k u hu
       obtain ⟨bS, oS, rfl, lts0, cs0⟩ := hc2.r.at (Below.refl w.heap.size w) k v hv
       have hrl : (k : Int) < (a.r.length : Int) := by have := hza.lenR; omega
       have hsl : (k : Int) < (b.r.length : Int) := by have := hzb.lenR; omega
       have a1 : addS (some 0) u = some (fz u) := by rw [addS_some 0 u nu (by rw [Int.zero_add]; exact few_ltF _ 1 (by decide) (by omega)), Int.zero_add]
       have a2 : addS (some (fz u)) v = some (fz u + fz v) := addS_some _ v nv (few_ltF _ 2 (by decide) (by omega))
       have hFk : fz (a.r.getD k 0) + fz (b.r.getD k 0) = fz u + fz v := by rw [hgu, hgv]
       clear hgu hgv hu hv hfu hfv nu nv
       go_wp2_with fail
       refine (new_any _).mono ?_
       rintro e _ ⟨rfl, rfl⟩
       have x7 := World.alloc_heap_new wr (.cells (accCells 0 false) 163)
       have y7 := below_alloc wr (.cells (accCells 0 false) 163)
       have o7 := hO.below y7
       have hbk := hO.lt
       have hgw := hO.ptr.lt
       have hB7 := hBr.trans (y7.mono hBr.size)
       generalize wr.alloc (.cells (accCells 0 false) 163) = W7 at *
       obtain ⟨bk, hbkE⟩ : ∃ b, wr.heap.size = b := ⟨_, rfl⟩
       have hws := hBr.size
       rw [hbkE] at x7 hbk hgw hws ⊢
       have z7 := acc_zero x7
       have hl7 : bk < W7.heap.size := z7.lt
       have hkk : (bs ++ [bk])[k]? = some bk := by rw [List.getElem?_append_right (by have := HBL.out; omega), HBL.out, Nat.sub_self]; rfl
       obtain ⟨⟨c, c0⟩, c1⟩ := o7.ptr.at hlt
       obtain ⟨o8, g8⟩ := o7.more hlt HBL.out bk hbk hgw (by rw [if_neg (Nat.lt_irrefl k)]; exact z7)
       have hB8 := hB7.trans (below_row g8 (by omega) hB7.size)
       have hs8 : W7.heap.size ≤ (W7.setCell ⟨go, k, none⟩ (.pointer (some ⟨bk, 0, none⟩))).heap.size := g8.size
       go_upto_region 11 with fail
       clear c0 c1 x7 y7 o7 hO hbk hB7 z7 hBr hbkE g8
       generalize W7.setCell ⟨go, k, none⟩ (.pointer (some ⟨bk, 0, none⟩)) = W8 at *
       have z8 := o8.acc k bk hkk
       rw [if_neg (Nat.lt_irrefl k)] at z8
       have cgo0 := o8.ptr.get k bk hkk
       have cgo := cgo0
       have n0 : ZB W8 h0 _ _ _ _ _ _ := ZB.below m0 hB8
       have hgoW : go < W8.heap.size := by omega
       have hBw := hB5.trans (hB8.mono hB5.size)
       have ltR := Nat.lt_of_lt_of_le ltr0 hBw.size
       have cR := (hBw.cell (p := ⟨bR, oR + k, none⟩) ltr0).trans cr0
       have hp9 := add_any W8.drew bk u (some 0) z8 u64
       rw [a1] at hp9
       have hS : ∀ W', Below W8.heap.size W8 W' → (fun w' => w'.cell? ⟨go, k, none⟩ = some (.pointer (some ⟨bk, 0, none⟩)) ∧ w'.cell? ⟨h0, 4, none⟩ = some (.slice (some ⟨bR, oR, none⟩) a.r.length kD) ∧ w'.cell? ⟨bR, oR + k, none⟩ = some (.float .f64 u)) W' := fun W' hb => ⟨((hb.cell (p := ⟨go, k, none⟩) hgoW).trans cgo), (cells6 (ZB.below n0 hb)).2.2.2.2.1, (hb.cell (p := ⟨bR, oR + k, none⟩) ltR).trans cR⟩
       have hd := (Below.refl W8.heap.size W8).drew
       refine late_begin (fun w' => w'.cell? ⟨go, k, none⟩ = some (.pointer (some ⟨bk, 0, none⟩)) ∧ w'.cell? ⟨h0, 4, none⟩ = some (.slice (some ⟨bR, oR, none⟩) a.r.length kD) ∧ w'.cell? ⟨bR, oR + k, none⟩ = some (.float .f64 u)) [] (by kernel_rfl) ?_
       refine lateT 0 (some 63) rfl rfl (hS _ hd) ?_
       try simp only [Act.put, lA, lZ, lC]
       refine lateT 1 (some 64) rfl rfl (hS _ hd) ?_
       try simp only [Act.put, lA, lZ, lC]
       refine lateT 2 (some 65) rfl rfl (hS _ hd) ?_
       try simp only [Act.put, lA, lZ, lC]
       refine lateT 3 (some 66) rfl rfl (hS _ hd) ?_
       try simp only [Act.put, lA, lZ, lC]
       refine lateT 4 (some 67) rfl rfl (hS _ hd) ?_
       try simp only [Act.put, lA, lZ, lC]
       refine lateT 5 (some 68) rfl rfl (hS _ hd) ?_
       try simp only [Act.put, lA, lZ, lC]
       refine lateT 6 (some 69) rfl rfl (hS _ hd) ?_
       try simp only [Act.put, lA, lZ, lC]
       refine lateT 7 (some 70) rfl rfl (hS _ hd) ?_
       try simp only [Act.put, lA, lZ, lC]
       refine lateT 8 (some 71) rfl rfl (hS _ hd) ?_
       try simp only [Act.put, lA, lZ, lC]
       refine late_one (i := 9) rfl (by kernel_rfl) ?_
       intro K hK
       go_simp
       refine hp9.mono ?_
       rintro e W9 ⟨rfl, z9, g9_⟩
       have g9 : W8.grownBy W9 (some bk) := ⟨g9_.os, g9_.tape, g9_.output, g9_.size, g9_.block⟩
       have hB9 := hB8.trans (below_row g9 (by omega) hB8.size)
       have n09 : ZB W9 h0 _ _ _ _ _ _ := ZB.below m0 hB9
       have hBw9 := hB5.trans (hB9.mono hB5.size)
       clear g9_
       try show K _ _
       refine hK.out _ _ (Or.inr ⟨g9.cell cgo0 (fun e => absurd (Option.some.inj e) (show go ≠ bk by omega)), (cells6 n09).2.2.2.2.1, (hBw9.cell (p := ⟨bR, oR + k, none⟩) ltr0).trans cr0⟩) ?_
       clear hK K
       try simp only [Act.put, lA, lZ, lC]
       refine late_done (by kernel_rfl) ?_ _
       clear hS hd cR ltR cgo n0 n09 hBw hBw9 hgoW
       have z9' : AccIs W9.drew bk (some (fz u)) := z9.heap (w1 := W9.drew) rfl
       have hgs9 : W8.heap.size ≤ W9.heap.size := g9.size
       have n1 : ZB W9 h1 _ _ _ _ _ _ := ZB.below m1 hB9
       have cgo : W9.cell? ⟨go, k, none⟩ = some (.pointer (some ⟨bk, 0, none⟩)) := g9.cell cgo0 (fun e => absurd (Option.some.inj e) (show go ≠ bk by omega))
       have hgoW : go < W9.heap.size := by omega
       have ltS := Nat.lt_of_lt_of_le lts0 (hB5.trans (hB9.mono hB5.size)).size
       have cS := ((hB5.trans (hB9.mono hB5.size)).cell (p := ⟨bS, oS + k, none⟩) lts0).trans cs0
       have hp10 := add_any W9.drew bk v _ z9' v64
       rw [a2] at hp10
       go_upto_region 12 with fail
       have hS : ∀ W', Below W9.heap.size W9 W' → (fun w' => w'.cell? ⟨go, k, none⟩ = some (.pointer (some ⟨bk, 0, none⟩)) ∧ w'.cell? ⟨h1, 4, none⟩ = some (.slice (some ⟨bS, oS, none⟩) b.r.length kD2) ∧ w'.cell? ⟨bS, oS + k, none⟩ = some (.float .f64 v)) W' := fun W' hb => ⟨((hb.cell (p := ⟨go, k, none⟩) hgoW).trans cgo), (cells6 (ZB.below n1 hb)).2.2.2.2.1, (hb.cell (p := ⟨bS, oS + k, none⟩) ltS).trans cS⟩
       have hd := (Below.refl W9.heap.size W9).drew
       refine late_begin (fun w' => w'.cell? ⟨go, k, none⟩ = some (.pointer (some ⟨bk, 0, none⟩)) ∧ w'.cell? ⟨h1, 4, none⟩ = some (.slice (some ⟨bS, oS, none⟩) b.r.length kD2) ∧ w'.cell? ⟨bS, oS + k, none⟩ = some (.float .f64 v)) [] (by kernel_rfl) ?_
       refine lateT 0 (some 73) rfl rfl (hS _ hd) ?_
       try simp only [Act.put, lA, lZ, lC]
       refine lateT 1 (some 74) rfl rfl (hS _ hd) ?_
       try simp only [Act.put, lA, lZ, lC]
       refine lateT 2 (some 75) rfl rfl (hS _ hd) ?_
       try simp only [Act.put, lA, lZ, lC]
       refine lateT 3 (some 76) rfl rfl (hS _ hd) ?_
       try simp only [Act.put, lA, lZ, lC]
       refine lateT 4 (some 77) rfl rfl (hS _ hd) ?_
       try simp only [Act.put, lA, lZ, lC]
       refine lateT 5 (some 78) rfl rfl (hS _ hd) ?_
       try simp only [Act.put, lA, lZ, lC]
       refine lateT 6 (some 79) rfl rfl (hS _ hd) ?_
       try simp only [Act.put, lA, lZ, lC]
       refine lateT 7 (some 80) rfl rfl (hS _ hd) ?_
       try simp only [Act.put, lA, lZ, lC]
       refine lateT 8 (some 81) rfl rfl (hS _ hd) ?_
       try simp only [Act.put, lA, lZ, lC]
       refine late_one (i := 9) rfl (by kernel_rfl) ?_
       intro K hK
       go_simp
       refine hp10.mono ?_
       rintro e W10 ⟨rfl, z10, g10_⟩
       have g10 : W9.grownBy W10 (some bk) := ⟨g10_.os, g10_.tape, g10_.output, g10_.size, g10_.block⟩
       have hB10 := hB9.trans (below_row g10 (by omega) hB9.size)
       have n19 : ZB W10 h1 _ _ _ _ _ _ := ZB.below m1 hB10
       have hBw10 := hB5.trans (hB10.mono hB5.size)
       clear g10_
       try show K _ _
       refine hK.out _ _ (Or.inr ⟨g10.cell cgo (fun e => absurd (Option.some.inj e) (show go ≠ bk by omega)), (cells6 n19).2.2.2.2.1, (hBw10.cell (p := ⟨bS, oS + k, none⟩) lts0).trans cs0⟩) ?_
       clear hK K
       try simp only [Act.put, lA, lZ, lC]
       refine late_done (by kernel_rfl) ?_ _
       clear hS hd n19 hBw10
       have o9 := o8.turn k bk hkk (f' := fun i => if i < k then (fz (a.r.getD i 0) + fz (b.r.getD i 0)) else if i = k then fz u else 0) (by rw [if_neg (Nat.lt_irrefl k), if_pos rfl]; exact z9) g9 (fun j hj => by
        by_cases h1 : j < k
        ·rw [if_pos h1, if_pos h1]
        ·rw [if_neg h1, if_neg h1, if_neg hj])
       have o10 := o9.turn k bk hkk (f' := fun i => if i < k + 1 then (fz (a.r.getD i 0) + fz (b.r.getD i 0)) else 0) (by rw [if_pos (Nat.lt_succ_self k), hFk]; exact z10) g10 (fun j hj => by
        by_cases h1 : j < k
        ·rw [if_pos h1, if_pos (by omega)]
        ·rw [if_neg h1, if_neg hj, if_neg (by omega)])
       have HG := Lib.hid (And.intro o10 hB10)
       clear o9 o10 hB10 o8 hB8 z9 z10 g9 g10 hp9 hp10 hFk hkk
       go_wp2_with fail
       go_roundw
       case rel => exact ⟨k + 1, bs ++ [bk], by omega, by go_num, by rw [List.length_append, HBL.out]; rfl, HG.out.1, HG.out.2⟩
       case measure => simp [intOf]; omega
      ·obtain rfl : n = k := by omega
       have hlt' : decide ((n : Int) < (n : Nat)) = false := by simp
       have hOF := hO.congr (f' := (fun i => fz (a.r.getD i 0) + fz (b.r.getD i 0))) (fun j hj => if_pos (by have := HBL.out; omega))
       have r0 : ZB wr h0 _ _ _ _ _ _ := ZB.below m0 hBr
       have r1 : ZB wr h1 _ _ _ _ _ _ := ZB.below m1 hBr
       have hBw := hB5.trans (hBr.mono hB5.size)
       have HN := Lib.hid hn
       have HN2 := Lib.hid hn2
       have hBr0 : w5.heap.size = go := hgo
       have hgo5 : w5.heap.size = go := hgo
       obtain ⟨y0, y1, y2, y3, y4, y5⟩ := cells6 r0
       go_upto_region 15 with fail
       have kg : ZB (wr.alloc (.cells #[.int .i64 (n : Int), .slice none 0 0, .slice none 0 0, .slice none 0 0, .slice none 0 0, .bool false] 26)) wr.heap.size _ _ _ _ _ _ := ZB.new wr _ _ _ _ _ _
       have hba := below_alloc wr (.cells #[.int .i64 (n : Int), .slice none 0 0, .slice none 0 0, .slice none 0 0, .slice none 0 0, .bool false] 26)
       have oa := hOF.below hba
       have ra := ZB.below r0 hba
       have rb := ZB.below r1 hba
       have hBa := hBr.trans (hba.mono hBr.size)
       have hBaw := hBw.trans (hba.mono hBw.size)
       have hbw := hOF.lt
       have hgw := hOF.ptr.lt
       have hsz := World.size_alloc wr (.cells #[.int .i64 (n : Int), .slice none 0 0, .slice none 0 0, .slice none 0 0, .slice none 0 0, .bool false] 26)
       clear y0 y1 y2 y3 y4 y5 hO hOF r0 r1 hBr hBw hba
       generalize wr.alloc (.cells #[.int .i64 (n : Int), .slice none 0 0, .slice none 0 0, .slice none 0 0, .slice none 0 0, .bool false] 26) = Wa at *
       obtain ⟨gb, hgbE⟩ : ∃ g, wr.heap.size = g := ⟨_, rfl⟩
       rw [hgbE] at kg hbw hgw hsz ⊢
       have hgbn : gb ∉ bs := fun hm => by have := hbw gb hm; omega
       have lcA : a.c.length = n := by have := hza.lenC; omega
       have lcB : b.c.length = n := by have := hzb.lenC; omega
       have hls := add_lists' Wa A A2 kA kA2 a.c.length b.c.length n go n a.c b.c bs (fun i => fz (a.r.getD i 0) + fz (b.r.getD i 0)) lcA lcB (hc.c.below (Nat.le_refl _) hBaw) (hc2.c.below (Nat.le_refl _) hBaw) lcA lcB ka.c kb.c hza.numC hzb.numC oa HBL.out (by omega) (fun j _ => (by
        have h1 := fz_lt _ (getD_num a.r hza.numR j)
        have h2 := fz_lt _ (getD_num b.r hzb.numR j)
        exact few_ltF _ 5 (by decide) (by omega))) (fun p hp hm => by
        have h1 := addr_lt hc.c (by omega) p hp
        have h2 := oa.ge _ hm
        have h3 := hB5.size
        omega) (fun p hp hm => by
        have h1 := addr_lt hc2.c (by omega) p hp
        have h2 := oa.ge _ hm
        have h3 := hB5.size
        omega)
       clear lcA lcB
       obtain ⟨y0, y1, y2, y3, y4, y5⟩ := cells6 ra
       obtain ⟨z0, z1, z2, z3, z4, z5⟩ := cells6 rb
       go_wp2_with fail
       refine hls.mono ?_
       rintro e w8 (⟨cs, gC, hT, rfl, hgC, hFC, o8, hK8⟩ | ⟨hT, rfl, hK8⟩)
       rotate_left
       ·have hbge : ∀ c ∈ bs, w5.heap.size ≤ c := fun c hc' => by have := oa.ge c hc'; omega
        have hB8 := hBa.trans (hK8.below hBa.size hbge)
        have k2 : ZB w8 h2 _ _ _ _ _ _ := ZB.below m2 hB8
        have kw : ZB w8 xw _ _ _ _ _ _ := ZB.below mw hB8
        have hB9 := hB5.trans (hB8.mono hB5.size)
        clear y0 y1 y2 y3 y4 y5 z0 z1 z2 z3 z4 z5 hls
        obtain ⟨lw0, lw1, lw2, lw3, lw4, lw5⟩ := cells6 kw
        obtain ⟨ly0, ly1, ly2, ly3, ly4, ly5⟩ := cells6 k2
        have lfr := fun j => frozen_of_row _ _ j _ _ k2
        have HE := Lib.hid (show plusD a b = lostZ sm from by rw [plusD_none HN.out HNE.out (plusZ_c hT), HSM0.out])
        go_wp2_with fail
        obtain ⟨q1, q2⟩ := set6 k2 (.int .i64 sm) (.slice none 0 0) (.slice none 0 0) (.slice none 0 0) (.slice none 0 0) (.bool true)
        obtain ⟨c0, c1, c2, c3, c4, c5⟩ := cells6 q1
        refine bodyPost_ret (v := .agg #[.int .i64 sm, .slice none 0 0, .slice none 0 0, .slice none 0 0, .slice none 0 0, .bool true]) (by simp [results, Tryz.results54, go_sem, c0, c1, c2, c3, c4, c5]) rfl ?_
        rw [HE.out]
        exact ⟨_, rfl, lost_own _ _ _, hB9.trans (below_row q2 (by omega) hB9.size)⟩
       have hbge : ∀ c ∈ bs, w5.heap.size ≤ c := fun c hc' => by have := oa.ge c hc'; omega
       have hB8 := hBa.trans (hK8.below hBa.size hbge)
       have kg8 : ZB w8 gb _ _ _ _ _ _ := (hK8.block gb (by omega) hgbn).trans kg
       have s8 := hK8.size
       have HT := Lib.hid hT
       obtain ⟨gy0, gy1, gy2, gy3, gy4, gy5⟩ := cells6 kg8
       have gfr := fun j => frozen_of_row w8 _ j _ _ kg8
       obtain ⟨g9, gg9⟩ := ZB.set1 kg8 (.slice (some ⟨gC, 0, none⟩) n n)
       have o9 := o8.grown gg9 (by omega) hgbn
       have hC9 := hFC.heap (gg9.block gC hFC.lt (fun e => by cases e; have := kg8.lt; omega))
       have hB9 := hB8.trans (below_row gg9 (by omega) hB8.size)
       clear y0 y1 y2 y3 y4 y5 z0 z1 z2 z3 z4 z5 hls hT
       go_upto_region 19 with fail
       clear gy0 gy1 gy2 gy3 gy4 gy5 gfr kg kg8 o8 hK8 hFC gg9 hB8 oa ra rb hBa hBaw
       generalize w8.setCell ⟨gb, 1, none⟩ (.slice (some ⟨gC, 0, none⟩) n n) = W9 at *
       have hgb9 : gb < W9.heap.size := ZB.lt g9
       have q0 : ZB W9 h0 _ _ _ _ _ _ := ZB.below m0 hB9
       have q1 : ZB W9 h1 _ _ _ _ _ _ := ZB.below m1 hB9
       have hB9w := hB5.trans (hB9.mono hB5.size)
       obtain ⟨ca, cc, hcA⟩ := cols_choose hc.g
       obtain ⟨ca2, cc2, hcB⟩ := cols_choose hc2.g
       have hby1 := fun W (hb : Below w.heap.size w W) => byId_any W A B C D kA kB kC kD a ca cc (hc.below hb) hza (cols_below hcA hb)
       have hby2 := fun W (hb : Below w.heap.size w W) => byId_any W A2 B2 C2 D2 kA2 kB2 kC2 kD2 b ca2 cc2 (hc2.below hb) hzb (cols_below hcB hb)
       unfold zval at hby1 hby2
       rw [hn] at hby1
       rw [hn2] at hby2
       have hS : ∀ W', Below W9.heap.size W9 W' → (fun w' => (w'.cell? ⟨h0, 0, none⟩ = some (.int .i64 (n : Int)) ∧ w'.cell? ⟨h0, 1, none⟩ = some (.slice A a.c.length kA) ∧ w'.cell? ⟨h0, 2, none⟩ = some (.slice B a.ids.length kB) ∧ w'.cell? ⟨h0, 3, none⟩ = some (.slice C a.g.length kC) ∧ w'.cell? ⟨h0, 4, none⟩ = some (.slice D a.r.length kD) ∧ w'.cell? ⟨h0, 5, none⟩ = some (.bool a.bad)) ∧ (w'.cell? ⟨h1, 0, none⟩ = some (.int .i64 (n : Int)) ∧ w'.cell? ⟨h1, 1, none⟩ = some (.slice A2 b.c.length kA2) ∧ w'.cell? ⟨h1, 2, none⟩ = some (.slice B2 b.ids.length kB2) ∧ w'.cell? ⟨h1, 3, none⟩ = some (.slice C2 b.g.length kC2) ∧ w'.cell? ⟨h1, 4, none⟩ = some (.slice D2 b.r.length kD2) ∧ w'.cell? ⟨h1, 5, none⟩ = some (.bool b.bad))) W' := fun W' hb => ⟨cells6 (ZB.below q0 hb), cells6 (ZB.below q1 hb)⟩
       have hd := (Below.refl W9.heap.size W9).drew
       refine late_begin (fun w' => (w'.cell? ⟨h0, 0, none⟩ = some (.int .i64 (n : Int)) ∧ w'.cell? ⟨h0, 1, none⟩ = some (.slice A a.c.length kA) ∧ w'.cell? ⟨h0, 2, none⟩ = some (.slice B a.ids.length kB) ∧ w'.cell? ⟨h0, 3, none⟩ = some (.slice C a.g.length kC) ∧ w'.cell? ⟨h0, 4, none⟩ = some (.slice D a.r.length kD) ∧ w'.cell? ⟨h0, 5, none⟩ = some (.bool a.bad)) ∧ (w'.cell? ⟨h1, 0, none⟩ = some (.int .i64 (n : Int)) ∧ w'.cell? ⟨h1, 1, none⟩ = some (.slice A2 b.c.length kA2) ∧ w'.cell? ⟨h1, 2, none⟩ = some (.slice B2 b.ids.length kB2) ∧ w'.cell? ⟨h1, 3, none⟩ = some (.slice C2 b.g.length kC2) ∧ w'.cell? ⟨h1, 4, none⟩ = some (.slice D2 b.r.length kD2) ∧ w'.cell? ⟨h1, 5, none⟩ = some (.bool b.bad))) [] (by kernel_rfl) ?_
       refine lateT 0 (some 102) rfl rfl (hS _ hd) ?_
       try simp only [Act.put, lA, lZ, lC]
       refine lateT 2 (some 104) rfl rfl (hS _ hd) ?_
       try simp only [Act.put, lA, lZ, lC]
       refine late_one (i := 1) rfl (by kernel_rfl) ?_
       intro K hK
       go_simp
       refine (hby1 _ (hB9w.trans (hd.mono hB9w.size))).mono ?_
       rintro e w10 ⟨mA, rfl, lmA, oA, hb10⟩
       have f10 := hd.trans (hb10.mono hd.size)
       try show K _ _
       refine hK.out _ _ (Or.inr (hS _ f10)) ?_
       clear hK K
       try simp only [Act.put, lA, lZ, lC]
       refine late_one (i := 3) rfl (by kernel_rfl) ?_
       intro K hK
       go_simp
       refine (hby2 _ (hB9w.trans (f10.mono hB9w.size))).mono ?_
       rintro e w11 ⟨mB, rfl, lmB, oB, hb11⟩
       have f11 := f10.trans (hb11.mono f10.size)
       try show K _ _
       refine hK.out _ _ (Or.inr (hS _ f11)) ?_
       clear hK K
       try simp only [Act.put, lA, lZ, lC]
       refine lateT 4 (some 12) rfl rfl (hS _ f11) ?_
       try simp only [Act.put, lA, lZ, lC]
       refine lateT 5 (some 13) rfl rfl (hS _ f11) ?_
       try simp only [Act.put, lA, lZ, lC]
       refine late_done (by kernel_rfl) ?_ _
       clear hS hd hby1 hby2
       have oA11 := ownsMap_heap oA (hb11.block mA oA.lt)
       have q0' := ZB.below q0 f11
       have q1' := ZB.below q1 f11
       have hB11 := hB9.trans (f11.mono hB9.size)
       have hB11w := hB9w.trans (f11.mono hB9w.size)
       have o11 := o9.below f11
       have g11 := ZB.below g9 f11
       have c11 := hC9.below f11
       have hl11 : W9.heap.size ≤ w11.heap.size := f11.size
       have lmA' : W9.heap.size ≤ mA := lmA
       have lmB' : W9.heap.size ≤ mB := by have := f10.size; omega
       clear oA q0 q1 o9 g9 hC9 f10 f11 hb10 hb11 lmA lmB
       have hmz := make_flts n (by omega)
       obtain ⟨y0, y1, y2, y3, y4, y5⟩ := cells6 q0'
       go_upto_region 21 with fail
       have kz : FlB (w11.alloc (.cells (madeCells #[.float .f64 0] n) 43)) w11.heap.size n (List.replicate n 0) := FlB.made w11 n
       have hbz := below_alloc w11 (.cells (madeCells #[.float .f64 0] n) 43)
       have oA12 := oA11.alloc (.cells (madeCells #[.float .f64 0] n) 43)
       have oB12 := oB.alloc (.cells (madeCells #[.float .f64 0] n) 43)
       have q02 := ZB.below q0' hbz
       have q12 := ZB.below q1' hbz
       have hB12 := hB11.trans (hbz.mono hB11.size)
       have hB12w := hB11w.trans (hbz.mono hB11w.size)
       have o12 := o11.below hbz
       have g12 := ZB.below g11 hbz
       have c12 := c11.below hbz
       clear y0 y1 y2 y3 y4 y5 hmz oA11 oB q0' q1' hB11 hB11w o11 g11 c11 hbz
       generalize w11.alloc (.cells (madeCells #[.float .f64 0] n) 43) = W12 at *
       obtain ⟨zb, hzbE⟩ : ∃ z, w11.heap.size = z := ⟨_, rfl⟩
       rw [hzbE] at kz hl11 ⊢
       have hun := union_any W12 B B2 kB kB2 a.ids.length b.ids.length a.ids b.ids (hc.ids.below (Nat.le_refl _) hB12w) (hc2.ids.below (Nat.le_refl _) hB12w) rfl rfl hc.cB.1 hc2.cB.1 hc.cB.2.1 hc2.cB.2.1 (by have := hza.cols; have := hza.len; have := hzb.cols; have := hzb.len; omega)
       obtain ⟨y0, y1, y2, y3, y4, y5⟩ := cells6 q02
       obtain ⟨z0, z1, z2, z3, z4, z5⟩ := cells6 q12
       go_wp2_with fail
       refine hun.mono ?_
       rintro e W0 ⟨Au, cu, rfl, hU, hb0⟩
       have oA0 := ownsMap_heap oA12 (hb0.block mA oA12.lt)
       have oB0 := ownsMap_heap oB12 (hb0.block mB oB12.lt)
       have hB0 := hB12.trans (hb0.mono hB12.size)
       have o0 := o12.below hb0
       have g0 := ZB.below g12 hb0
       have c0 := c12.below hb0
       have kz0 := kz.below hb0
       have HUL := Lib.hid (show (unionD a.ids b.ids).length ≤ 2147483650 by have := union_len a.ids b.ids; have := hza.cols; have := hza.len; have := hzb.cols; have := hzb.len; omega)
       have HWF := Lib.hid (show ∀ i ∈ unionD a.ids b.ids, 0 ≤ i ∧ i ≤ 1073741824 from fun i hi => union_wf hza hzb hi)
       clear y0 y1 y2 y3 y4 y5 z0 z1 z2 z3 z4 z5 hun oA12 oB12 q02 q12 hB12 hB12w o12 g12 c12 kz hb0
       obtain ⟨U, hUE⟩ : ∃ U, unionD a.ids b.ids = U := ⟨_, rfl⟩
       rw [hUE] at hU HUL HWF ⊢
       have HUE := Lib.hid hUE
       clear hUE
       have hst0 : PSt w.heap.size W0 bs gb n (.slice (some ⟨gC, 0, none⟩) n n) cs W0 (.slice none 0 0) (.slice none 0 0) [] [] [] := ⟨Kept.refl _ _, g0, FOs.one (c0.own (addT_len HT.out) (by have := hB5.size; have := hBr0; omega) (by unfold maxLen; omega)), OwnG.nil _ _, OwnG.nil _ _⟩
       have hTg := ZB.typed g0
       have hTb := o0.typed
       have hgbW := ZB.lt g0
       have hgbgo : gb ≠ go := by omega
       have hW9 : W9.heap.size ≤ W0.heap.size := by have := kz0.lt; omega
       have hbge' : ∀ c ∈ gb :: bs, w5.heap.size ≤ c := fun c hc' => by
        rcases List.mem_cons.1 hc' with e | e
        ·omega
        ·exact hbge c e
       have o0' : Offs W0 go n bs (offF a b n U 0) := o0.congr (fun x _ => (by unfold offF; exact (Int.add_zero _).symm))
       clear g0 c0 o0
       go_wp2_with fail
       go_loopw [115] (fun kk wr => ∃ (j : Nat) (vi vg : Value) (vals : List Value) (is : List Int) (gs : List (List Nat)), j ≤ U.length ∧ kk = .int .i64 (j : Nat) ∧ gT a b n U j = some (is, gs) ∧ PSt w.heap.size W0 bs gb n (.slice (some ⟨gC, 0, none⟩) n n) cs wr vi vg vals is gs ∧ Offs wr go n bs (offF a b n U j)) (fun kk _ => U.length - (intOf kk).toNat)
       case atStart => exact ⟨0, _, _, [], [], [], Nat.zero_le _, rfl, rfl, hst0, o0'⟩
       case round =>
        obtain ⟨j, vi, vg, vals, is, gs, hj, rfl, hgt, hst, hO⟩ := hrel
        have HGT := Lib.hid hgt
        clear hgt hst0 o0'
        have hKp := hst.kept
        have hBr := hB0.trans (hKp.below hB0.size hbge')
        have hBw := hB5.trans (hBr.mono hB5.size)
        by_cases hlt : j < U.length
        ·have hlt' : (j : Int) < (U.length : Int) := by omega
         have hjl : j < 2147483650 := by have := HUL.out; omega
         obtain ⟨i, hi⟩ := get_some U j hlt
         have hgi : U.getD j 0 = i := by rw [List.getD_eq_getElem?_getD, hi, Option.getD_some]
         obtain ⟨hi0, hi1⟩ := HWF.out i (List.mem_of_getElem? hi)
         obtain ⟨bu, ou, rfl, hbu, cu0⟩ := hU.at_.row j i hi
         have cu1 : wr.cell? ⟨bu, ou + j, none⟩ = some (.int .i64 i) := (World.cell?_of_block (a := ⟨bu, ou + j, none⟩) (hKp.far hTg hTb (hU.typed ⟨bu, ou, none⟩ rfl) (by decide) (by decide))).trans cu0
         have oA := hKp.ownsMap hTg hTb oA0
         have oB := hKp.ownsMap hTg hTb oB0
         have hwf := wf_id hi0 hi1
         have kz := kz0.heap (hKp.far hTg hTb kz0.typed (by decide) (by decide))
         have hpc := look_case hza ka HN.out (by omega) (fun k hk => (hcA k hk).1) i
         have hqc := look_case hzb kb HN2.out (by omega) (fun k hk => (hcB k hk).1) i
         obtain ⟨pv, hpv⟩ : ∃ v, lookV a ca cc i = v := ⟨_, rfl⟩
         obtain ⟨qv, hqv⟩ : ∃ v, lookV b ca2 cc2 i = v := ⟨_, rfl⟩
         clear hi hKp
         go_upto_region 24 with fail
         have hS : ∀ W', Below wr.heap.size wr W' → (fun w' => (Instr.lookup 149 (.map (some mA)) (.int .i64 i) false).run Tryz.prog w' = .ok pv w' ∧ (Instr.lookup 149 (.map (some mB)) (.int .i64 i) false).run Tryz.prog w' = .ok qv w') W' := fun W' hb => ⟨hpv ▸ look_any hza (ownsMap_heap oA (hb.block mA oA.lt)) hwf, hqv ▸ look_any hzb (ownsMap_heap oB (hb.block mB oB.lt)) hwf⟩
         have hd := (Below.refl wr.heap.size wr).drew
         refine late_begin (fun w' => (Instr.lookup 149 (.map (some mA)) (.int .i64 i) false).run Tryz.prog w' = .ok pv w' ∧ (Instr.lookup 149 (.map (some mB)) (.int .i64 i) false).run Tryz.prog w' = .ok qv w') [] (by kernel_rfl) ?_
         refine lateT 0 (some 119) rfl rfl (hS _ hd) ?_
         try simp only [Act.put, lA, lZ, lC]
         refine lateT 1 (some 120) rfl rfl (hS _ hd) ?_
         try simp only [Act.put, lA, lZ, lC]
         refine lateT 2 (some 121) rfl rfl (hS _ hd) ?_
         try simp only [Act.put, lA, lZ, lC]
         refine lateT 3 (some 122) rfl rfl (hS _ hd) ?_
         try simp only [Act.put, lA, lZ, lC]
         refine lateT 4 (some 123) rfl rfl (hS _ hd) ?_
         try simp only [Act.put, lA, lZ, lC]
         refine lateT 5 (some 124) rfl rfl (hS _ hd) ?_
         try simp only [Act.put, lA, lZ, lC]
         refine lateT 6 (some 17) rfl rfl (hS _ hd) ?_
         try simp only [Act.put, lA, lZ, lC]
         refine lateT 7 (some 18) rfl rfl (hS _ hd) ?_
         try simp only [Act.put, lA, lZ, lC]
         refine late_done (by kernel_rfl) ?_ _
         clear hS
         have hst1 := hst.b hd
         have hO1 := hO.below hd
         have kz1 := kz.below hd
         have hBw1 := hBw.trans (hd.mono hBw.size)
         have hBr1 := hBr.trans (hd.mono hBr.size)
         clear hst hO kz hBw hBr hd oA oB cu1
         have hzbn : zb ∉ bs := fun hm => by have h1 : zb < gb := hbw _ hm; omega
         generalize wr.drew = Wd at *
         obtain ⟨hPl, hPs, hPn⟩ : (colI a n i).length = n ∧ Small (colI a n i) ∧ ∀ u ∈ colI a n i, fexp u ≠ 2047 := by
          rcases hpc with ⟨_, _, _, _, _, _, g1, g2, g3⟩ | ⟨_, g⟩
          ·exact ⟨g1, g2, g3⟩
          ·rw [g]; exact ⟨List.length_replicate, (zeros_small n).1, (zeros_small n).2⟩
         obtain ⟨pn, hPg, hPe, hPz, hPy⟩ : ∃ pn : Bool, (∀ W, (eqGuard .eql 22 (.tmp 125) (.const (.slice none 0 0)) pv (.slice none 0 0)).run Tryz.prog W = .ok () W) ∧ (∀ W, (binOp .eql 22 pv (.slice none 0 0)).run Tryz.prog W = .ok (.bool pn) W) ∧ (pn = true → colI a n i = List.replicate n 0) ∧ (pn = false → ∃ bp op kp : Nat, pv = .slice (some ⟨bp, op, none⟩) n kp ∧ bp < w.heap.size ∧ FR w (some ⟨bp, op, none⟩) (colI a n i)) := by
          rcases hpc with ⟨bp, op, kp, e1, g1, g2, _⟩ | ⟨e1, g⟩
          ·exact ⟨false, fun W => by rw [← hpv, e1]; rfl, fun W => by rw [← hpv, e1]; exact Go.Lib.run_eql_slice_nil W _ _ _ _ _ _ _ Tryz.underlying22, fun h => (by cases h), fun _ => ⟨bp, op, kp, hpv.symm.trans e1, g1, g2⟩⟩
          ·exact ⟨true, fun W => by rw [← hpv, e1]; rfl, fun W => by rw [← hpv, e1]; exact Go.Lib.run_eql_slice_nil W _ _ _ _ _ _ _ Tryz.underlying22, fun _ => g, fun h => (by cases h)⟩
         have HPy := Lib.hid (And.intro hPz hPy)
         clear hpc hPz hPy hpv
         go_upto_if 126 with fail
         go_cut [17, 126] from 127 to 127 (fun v _ wx => wx = Wd ∧ ∃ bp op kp : Nat, v = .slice (some ⟨bp, op, none⟩) n kp ∧ FR Wd (some ⟨bp, op, none⟩) (colI a n i) ∧ bp ∉ bs)
         case first =>
          cases pn with
          | true =>
           go_wp2_with fail
           go_meet
           case rel => exact ⟨rfl, zb, 0, n, rfl, (by rw [HPy.out.1 (by simp)]; exact kz1.row), hzbn⟩
          | false =>
           obtain ⟨bp, op, kp, e1, g1, g2⟩ := HPy.out.2 rfl
           subst e1
           go_wp2_with fail
           go_meet
           case rel => exact ⟨rfl, bp, op, kp, rfl, g2.below (Nat.le_refl _) hBw1, fun hm => by have h1 : w5.heap.size ≤ bp := hbge _ hm; have h3 := hB5.size; omega⟩
         case rest =>
          obtain ⟨hwc, bp, op, kp, rfl, hPf, hPb⟩ := hcut
          subst hwc
          generalize wc = WZ at *
          clear hPg hPe HPy
          obtain ⟨hQl, hQs, hQn⟩ : (colI b n i).length = n ∧ Small (colI b n i) ∧ ∀ u ∈ colI b n i, fexp u ≠ 2047 := by
           rcases hqc with ⟨_, _, _, _, _, _, g1, g2, g3⟩ | ⟨_, g⟩
           ·exact ⟨g1, g2, g3⟩
           ·rw [g]; exact ⟨List.length_replicate, (zeros_small n).1, (zeros_small n).2⟩
          obtain ⟨pn, hQg, hPe, hPz, hPy⟩ : ∃ pn : Bool, (∀ W, (eqGuard .eql 22 (.tmp 128) (.const (.slice none 0 0)) qv (.slice none 0 0)).run Tryz.prog W = .ok () W) ∧ (∀ W, (binOp .eql 22 qv (.slice none 0 0)).run Tryz.prog W = .ok (.bool pn) W) ∧ (pn = true → colI b n i = List.replicate n 0) ∧ (pn = false → ∃ bq oq kq : Nat, qv = .slice (some ⟨bq, oq, none⟩) n kq ∧ bq < w.heap.size ∧ FR w (some ⟨bq, oq, none⟩) (colI b n i)) := by
           rcases hqc with ⟨bq, oq, kq, e1, g1, g2, _⟩ | ⟨e1, g⟩
           ·exact ⟨false, fun W => by rw [← hqv, e1]; rfl, fun W => by rw [← hqv, e1]; exact Go.Lib.run_eql_slice_nil W _ _ _ _ _ _ _ Tryz.underlying22, fun h => (by cases h), fun _ => ⟨bq, oq, kq, hqv.symm.trans e1, g1, g2⟩⟩
           ·exact ⟨true, fun W => by rw [← hqv, e1]; rfl, fun W => by rw [← hqv, e1]; exact Go.Lib.run_eql_slice_nil W _ _ _ _ _ _ _ Tryz.underlying22, fun _ => g, fun h => (by cases h)⟩
          have HPy := Lib.hid (And.intro hPz hPy)
          clear hqc hPz hPy hqv
          go_upto_if 129 with fail
          go_cut [18, 129] from 130 to 130 (fun v _ wx => wx = WZ ∧ ∃ bq oq kq : Nat, v = .slice (some ⟨bq, oq, none⟩) n kq ∧ FR WZ (some ⟨bq, oq, none⟩) (colI b n i) ∧ bq ∉ bs)
          case first =>
           cases pn with
           | true =>
            go_wp2_with fail
            go_meet
            case rel => exact ⟨rfl, zb, 0, n, rfl, (by rw [HPy.out.1 (by simp)]; exact kz1.row), hzbn⟩
           | false =>
            obtain ⟨bq, oq, kq, e1, g1, g2⟩ := HPy.out.2 rfl
            subst e1
            go_wp2_with fail
            go_meet
            case rel => exact ⟨rfl, bq, oq, kq, rfl, g2.below (Nat.le_refl _) hBw1, fun hm => by have h1 : w5.heap.size ≤ bq := hbge _ hm; have h3 := hB5.size; omega⟩
          case rest =>
           obtain ⟨hwc, bq, oq, kq, rfl, hQf, hQb⟩ := hcut
           subst hwc
           generalize wc = wr at *
           clear hQg hPe HPy
           have hls := add_lists' wr _ _ kp kq n n n go n (colI a n i) (colI b n i) bs (offF a b n U j) rfl rfl hPf hQf hPl hQl hPs hQs hPn hQn hO1 HBL.out (by omega) (fun x _ => offF_lim hza hzb n U j x (by have := HUL.out; omega)) (fun p hp => by cases hp; exact hPb) (fun p hp => by cases hp; exact hQb)
           have HHL := Lib.hid (And.intro hPl hQl)
           clear hPl hQl
           go_wp2_with fail
           refine hls.mono ?_
           rintro e w8 (⟨l, gL, hT8, rfl, hgL, hFL, o8, hK8⟩ | ⟨hT8, rfl, hK8⟩)
           rotate_left
           ·have hB8 := hBr1.trans (hK8.below hBr1.size hbge)
            have k2 : ZB w8 h2 _ _ _ _ _ _ := ZB.below m2 hB8
            have kw : ZB w8 xw _ _ _ _ _ _ := ZB.below mw hB8
            have hB9' := hB5.trans (hB8.mono hB5.size)
            clear hls
            obtain ⟨lw0, lw1, lw2, lw3, lw4, lw5⟩ := cells6 kw
            obtain ⟨ly0, ly1, ly2, ly3, ly4, ly5⟩ := cells6 k2
            have lfr := fun j => frozen_of_row _ _ j _ _ k2
            have HE := Lib.hid (show plusD a b = lostZ sm from by rw [plusD_none HN.out HNE.out (by rw [HUE.out]; exact plusZ_g HT.out (gT_none (gT_over HGT.out (by rw [hgi]; exact hT8)) _ hlt)), HSM0.out])
            go_wp2_with fail
            obtain ⟨q1, q2⟩ := set6 k2 (.int .i64 sm) (.slice none 0 0) (.slice none 0 0) (.slice none 0 0) (.slice none 0 0) (.bool true)
            obtain ⟨c0, c1, c2, c3, c4, c5⟩ := cells6 q1
            refine bodyPost_ret (v := .agg #[.int .i64 sm, .slice none 0 0, .slice none 0 0, .slice none 0 0, .slice none 0 0, .bool true]) (by simp [results, Tryz.results54, go_sem, c0, c1, c2, c3, c4, c5]) rfl ?_
            rw [HE.out]
            exact ⟨_, rfl, lost_own _ _ _, hB9'.trans (below_row q2 (by omega) hB9'.size)⟩
           have hst8 := hst1.accs hK8 hO1.typed
           have o9' : Offs w8 go n bs (offF a b n U (j + 1)) := o8.congr (fun x _ => by rw [offF_succ, hgi])
           have hfl8 : FOs w.heap.size w8 ((.slice (some ⟨gC, 0, none⟩) n n) :: (vals ++ [.slice (some ⟨gL, 0, none⟩) n n])) (cs :: (gs ++ [l])) := FOs.add hst1.fl (fun v hv k hk => hK8.block k (hst1.fl.lt v hv k hk).2.1 fun hm => (hst1.fl.lt v hv k hk).2.2.ne (hO1.typed k hm) (by decide) rfl) (hFL.own (addT_len hT8) hgL (by unfold maxLen; omega)) (Nat.le_refl _) hBw1.size
           have HG8 := Lib.hid (And.intro o9' (And.intro hfl8 hT8))
           clear hls o8 hK8 hFL o9' hfl8 hT8 hst1 hO1 kz1 hPf hQf hPs hQs hPn hQn hPb hQb hgL
           cases hany : anyF l with
           | false =>
            have hst9 := hst8
            clear hst8
            go_wp2_with fail
            go_roundw
            case rel => exact ⟨j + 1, vi, vg, vals, is, gs, hlt, by go_num, gT_skip HGT.out (by rw [hgi]; exact HG8.out.2.2) hany, hst9, HG8.out.1⟩
            case measure => simp [intOf]; omega
           | true =>
            obtain ⟨hisl, hvsl⟩ : is.length ≤ 2147483650 ∧ vals.length ≤ 2147483650 := by
             have h1 := gT_len HGT.out
             have h2 := HUL.out
             have h3 := hst8.col
             omega
            have hst9 := hst8.b (below_alloc w8 (.cells #[.int .i64 i] 3))
            have q2 := (cells6 hst8.out).2.2.1
            go_upto_region 34 with (at_builtin; refine wpList_app1 cI 8 (.int .i64 0) 23 3 Tryz.underlying23 infoInt rfl rfl (.tmp 144) (.tmp 146) rfl W0.heap.size vi is i _ w8.heap.size rfl rfl hst9.ids rfl rfl (cell_new0 w8 _ 3) (by omega) (by omega) hst9.size ?_; intro v5 w5' ho5 hg5 _; obtain ⟨A5, c5, hv5, _⟩ := ho5.lat; rw [List.length_append, List.length_singleton] at hv5; subst hv5; obtain ⟨kz5, kst5, _⟩ := hst9.putIds hgbW ho5 hg5; have o11 := ((HG8.out.1.below (below_alloc w8 (.cells #[.int .i64 i] 3))).far hg5 hst9.ids.typed (by decide) (by decide)).grown (ZB.set2 kz5 (.slice A5 (is.length + 1) c5)).2 hgbgo hgbn; have hf11 := ((HG8.out.2.1.below (below_alloc w8 (.cells #[.int .i64 i] 3))).far hg5 hst9.ids.typed (by decide)).far (ZB.set2 kz5 (.slice A5 (is.length + 1) c5)).2 (fun k e => by cases e; exact kz5.typed) (by decide); have KK := Lib.hid (And.intro kst5 (And.intro o11 hf11)); clear kst5 o11 hf11 ho5 hg5; obtain ⟨y0, y1, y2, y3, y4, y5⟩ := cells6 kz5; have fr5 := (fun j => frozen_of_row w5' _ j _ _ kz5))
            obtain ⟨hs5, o12, hf12⟩ := KK.out
            clear kz5 KK y0 y1 y2 y3 y4 y5 fr5 hst9 hst8 q2
            generalize w5'.setCell ⟨gb, 2, none⟩ (.slice A5 (is.length + 1) c5) = W6 at *
            have hs6 := hs5.b (below_alloc W6 (.cells #[.slice (some ⟨gL, 0, none⟩) n n] 22))
            have q3 := (cells6 hs5.out).2.2.2.1
            have hb6 := below_alloc W6 (.cells #[.slice (some ⟨gL, 0, none⟩) n n] 22)
            have HF6 := Lib.hid (And.intro (o12.below hb6) (hf12.below hb6))
            clear o12 hf12
            go_wp2_with (at_builtin; refine wpList_app1 cV 24 (.slice none 0 0) 24 22 Tryz.underlying24 infoLF rfl rfl (.tmp 150) (.tmp 152) rfl W0.heap.size vg vals (.slice (some ⟨gL, 0, none⟩) n n) (.slice (some ⟨gL, 0, none⟩) n n) W6.heap.size rfl rfl hs6.g rfl rfl (cell_new0 W6 _ 22) (by omega) (by omega) hs6.size ?_; intro v7 w7 ho7 hg7 _; obtain ⟨A7, c7, hv7, _⟩ := ho7.lat; rw [List.length_append, List.length_singleton] at hv7; subst hv7; obtain ⟨kz7, kst7⟩ := hs6.putCol HF6.out.2 ho7 hg7; have o13 := (HF6.out.1.far hg7 hs6.g.typed (by decide) (by decide)).grown (ZB.set3 kz7 (.slice A7 (vals.length + 1) c7)).2 hgbgo hgbn; have KK7 := Lib.hid (And.intro kst7 o13); clear kst7 o13 ho7 hg7; obtain ⟨y0, y1, y2, y3, y4, y5⟩ := cells6 kz7; have fr7 := (fun j => frozen_of_row w7 _ j _ _ kz7))
            go_roundw
            case rel => exact ⟨j + 1, _, _, _, is ++ [i], gs ++ [l], hlt, by go_num, by rw [← hgi]; exact gT_more HGT.out (by rw [hgi]; exact HG8.out.2.2) hany, KK7.out.1, KK7.out.2⟩
            case measure => simp [intOf]; omega
        ·obtain rfl : U.length = j := by omega
         have hlt' : decide (((U.length : Nat) : Int) < (U.length : Nat)) = false := by simp
         have out3 := hst.out
         have HST := Lib.hid hst
         have hBr3 := hBr
         clear hst hBr hBw hlt hKp
         generalize wr = W3 at *
         go_wp2_with fail
         go_loopw [158] (fun kk wr => ∃ (k : Nat) (vr : Value) (rs : List Nat), k ≤ n ∧ kk = .int .i64 (k : Nat) ∧ rT (offF a b n U U.length) k = some rs ∧ ZB wr gb (.int .i64 (n : Int)) (.slice (some ⟨gC, 0, none⟩) n n) vi vg vr (.bool false) ∧ OwnG (fun x => [cF x]) 43 1 wr W3.heap.size vr rs ∧ Kept [gb] W3 wr) (fun kk _ => n - (intOf kk).toNat)
         case atStart => exact ⟨0, _, [], Nat.zero_le _, rfl, rfl, out3, OwnG.nil _ _, Kept.refl _ _⟩
         case round =>
          obtain ⟨k, vr, rs, hk, rfl, hrt, hz, hr, hK⟩ := hrel
          have HRT := Lib.hid hrt
          have hrl : rs.length ≤ k := Nat.le_of_eq (rT_len hrt)
          clear hrt out3
          have hO' := hO.kept hK (Ne.symm hgbgo) hgbn
          have hBr := hBr3.trans (hK.below hBr3.size (fun b hb => by rw [List.mem_singleton.1 hb]; omega))
          by_cases hlt : k < n
          ·have hlt' : (k : Int) < (n : Int) := by omega
           obtain ⟨bk, hbk⟩ := get_some bs k (by have := HBL.out; omega)
           have hac := hO'.acc k bk hbk
           have cp := hO'.ptr.get k bk hbk
           have hro := round_any wr bk 1 _ hac (by decide) (by decide)
           obtain ⟨u, ok, hrd⟩ : ∃ u ok, roundS 1 (some (offF a b n U U.length k)) = (u, ok) := ⟨_, _, rfl⟩
           rw [hrd] at hro
           have HRD := Lib.hid hrd
           clear hbk hac hrd hO'
           go_wp2_with fail
           refine hro.mono ?_
           rintro e w4_ ⟨rfl, hb4⟩
           clear hro cp
           cases ok with
           | false =>
            have hB8 := hBr.trans (hb4.mono hBr.size)
            have k2 : ZB w4_ h2 _ _ _ _ _ _ := ZB.below m2 hB8
            have kw : ZB w4_ xw _ _ _ _ _ _ := ZB.below mw hB8
            have hB9_ := hB5.trans (hB8.mono hB5.size)
            obtain ⟨lw0, lw1, lw2, lw3, lw4, lw5⟩ := cells6 kw
            obtain ⟨ly0, ly1, ly2, ly3, ly4, ly5⟩ := cells6 k2
            have lfr := fun j => frozen_of_row _ _ j _ _ k2
            have HE := Lib.hid (show plusD a b = lostZ sm from by rw [plusD_none HN.out HNE.out (by rw [HUE.out]; exact plusZ_r HT.out HGT.out (rT_none (rT_over HRT.out (by rw [HRD.out])) _ hlt)), HSM0.out])
            go_wp2_with fail
            obtain ⟨q1, q2⟩ := set6 k2 (.int .i64 sm) (.slice none 0 0) (.slice none 0 0) (.slice none 0 0) (.slice none 0 0) (.bool true)
            obtain ⟨c0, c1, c2, c3, c4, c5⟩ := cells6 q1
            refine bodyPost_ret (v := .agg #[.int .i64 sm, .slice none 0 0, .slice none 0 0, .slice none 0 0, .slice none 0 0, .bool true]) (by simp [results, Tryz.results54, go_sem, c0, c1, c2, c3, c4, c5]) rfl ?_
            rw [HE.out]
            exact ⟨_, rfl, lost_own _ _ _, hB9_.trans (below_row q2 (by omega) hB9_.size)⟩
           | true =>
            have hz4 := ZB.below hz hb4
            have hr4 := OwnG.below hr hb4
            have hK4 := hK.trans (Kept.of_below _ hb4)
            have ha4 := below_alloc w4_ (.cells #[.float .f64 u] 43)
            have hz5 := ZB.below hz4 ha4
            have hr5 := OwnG.below hr4 ha4
            have hK5 := hK4.trans (Kept.of_below _ ha4)
            have hsz5 := hK5.size
            have q4 := (cells6 hz4).2.2.2.2.1
            clear hz hr hK hb4 hr4 hK4 ha4
            go_wp2_with (at_builtin; refine wpList_app1 cF 8 (.float .f64 0) 22 43 Tryz.underlying22 infoF64 rfl rfl (.tmp 171) (.tmp 173) rfl W3.heap.size vr rs u _ w4_.heap.size rfl rfl hr5 rfl rfl (cell_new0 w4_ _ 43) (by omega) (by omega) hsz5 ?_; intro v5 w5' ho5 hg5 _; obtain ⟨A5, c5, hv5, _⟩ := ho5.lat; rw [List.length_append, List.length_singleton] at hv5; subst hv5; have kz5 : ZB w5' gb _ _ _ _ _ _ := block_far hz5 hg5 hr5.typed (by decide); obtain ⟨s1, s2⟩ := ZB.set4 kz5 (.slice A5 (rs.length + 1) c5); have hr6 := ho5.farR s2 (fun k e => by cases e; exact kz5.typed) (by decide); have hK6 := (hK5.add (below_ownG hr5 hg5 hsz5)).row s2 (Or.inr (List.mem_singleton.2 rfl)); have KK := Lib.hid (And.intro s1 (And.intro hr6 hK6)); clear s1 s2 hr6 hK6 ho5 hg5; obtain ⟨y0, y1, y2, y3, y4, y5⟩ := cells6 kz5; have fr5 := (fun j => frozen_of_row w5' _ j _ _ kz5))
            go_roundw
            case rel => exact ⟨k + 1, _, rs ++ [u], hlt, by go_num, (by have h := rT_more HRT.out (by rw [HRD.out]); rw [HRD.out] at h; exact h), KK.out.1, KK.out.2.1, KK.out.2.2⟩
            case measure => simp [intOf]; omega
          ·obtain rfl : n = k := by omega
           have hlt' : decide ((n : Int) < (n : Nat)) = false := by simp
           have HRT9 := HRT
           have hst := HST.out
           have k2 : ZB wr h2 _ _ _ _ _ _ := ZB.below m2 hBr
           have hnet : ∀ (k : Nat) (t : TypeId), Typed W3 k t → t ≠ 26 → wr.heap[k]? = W3.heap[k]? := fun k t hk hne => hK.block k hk.lt fun hm => by
            have e := List.mem_singleton.1 hm
            subst e
            exact hk.ne (ZB.typed hst.out) hne rfl
           have hfl : FOs w.heap.size wr ((.slice (some ⟨gC, 0, none⟩) n n) :: vr :: vals) (cs :: rs :: gs) := FOs.second hst.fl (fun v hv k hk => hnet k _ (hst.fl.lt v hv k hk).2.2 (by decide)) hr (Nat.le_refl _) (Nat.le_trans (hB5.trans (hB0.mono hB5.size)).size hst.size)
           have hlow : w.heap.size ≤ W0.heap.size := (hB5.trans (hB0.mono hB5.size)).size
           have hids := (hst.ids.heap fun k hk => hnet k _ (hst.ids.typed k hk) (by decide)).lowB hlow
           have hgs := (hst.g.heap fun k hk => hnet k _ (hst.g.typed k hk) (by decide)).lowB hlow
           obtain ⟨Ai, ci, rfl, _⟩ := hids.lat
           obtain ⟨Ag, cg, rfl, _⟩ := hgs.lat
           obtain ⟨Ar, cr, rfl, _⟩ := hr.lat
           obtain ⟨s1, s2⟩ := set6 k2 (.int .i64 (n : Int)) (.slice (some ⟨gC, 0, none⟩) n n) (.slice Ai is.length ci) (.slice Ag vals.length cg) (.slice Ar rs.length cr) (.bool false)
           have hzt : ∀ k, some h2 = some k → Typed wr k 26 := fun k e => by cases e; exact ZB.typed k2
           have HZO := Lib.hid (show ZOwnC w.heap.size _ (⟨(n : Int), cs, is, gs, rs, false⟩ : ZD) (.slice (some ⟨gC, 0, none⟩) n n) (.slice Ai is.length ci) (.slice Ag vals.length cg) (.slice Ar rs.length cr) vals from ⟨hfl.far s2 hzt (by decide), hids.farR s2 hzt (by decide), hgs.farR s2 hzt (by decide)⟩)
           have HE := Lib.hid (show plusD a b = (⟨(n : Int), cs, is, gs, rs, false⟩ : ZD) from plusD_some HN.out HNE.out (by rw [HUE.out]; exact plusZ_yes HT.out HGT.out HRT.out))
           have hBq := hB5.trans (hBr.mono hB5.size)
           have HBf := Lib.hid (hBq.trans (below_row s2 (by omega) hBq.size))
           clear hBq
           obtain ⟨lw0, lw1, lw2, lw3, lw4, lw5⟩ := cells6 hz
           obtain ⟨ly0, ly1, ly2, ly3, ly4, ly5⟩ := cells6 k2
           have lfr := fun j => frozen_of_row _ _ j _ _ k2
           obtain ⟨c0, c1, c2, c3, c4, c5⟩ := cells6 s1
           have HC := Lib.hid (And.intro c0 (And.intro c1 (And.intro c2 (And.intro c3 (And.intro c4 c5)))))
           clear hst hfl hids hgs hr s1 s2 hzt hnet c0 c1 c2 c3 c4 c5 hO hO' hK HST HRT9
           go_wp2_with fail
           obtain ⟨c0, c1, c2, c3, c4, c5⟩ := HC.out
           refine bodyPost_ret (v := .agg #[.int .i64 (n : Int), (.slice (some ⟨gC, 0, none⟩) n n), .slice Ai is.length ci, .slice Ag vals.length cg, .slice Ar rs.length cr, .bool false]) (by simp [results, Tryz.results54, go_sem, c0, c1, c2, c3, c4, c5]) rfl ?_
           rw [HE.out]
           exact ⟨_, rfl, ⟨_, _, _, _, vals, rfl, HZO.out⟩, HBf.out⟩
    ·have hne' : decide (a.n = b.n) = false := decide_eq_false hne
     obtain ⟨lw0, lw1, lw2, lw3, lw4, lw5⟩ := cells6 mw
     obtain ⟨ly0, ly1, ly2, ly3, ly4, ly5⟩ := cells6 m2
     have lfr := fun j => frozen_of_row _ _ j _ _ m2
     have HE := Lib.hid (show plusD a b = lostZ sm from by unfold plusD; rw [if_neg (by rintro ⟨h1, h2, h3⟩; first | exact absurd h1 (by rw [hga]; decide) | exact absurd h2 (by rw [hgb]; decide) | exact hne h3), HSM0.out])
     go_wp2_with fail
     obtain ⟨q1, q2⟩ := set6 m2 (.int .i64 sm) (.slice none 0 0) (.slice none 0 0) (.slice none 0 0) (.slice none 0 0) (.bool true)
     obtain ⟨c0, c1, c2, c3, c4, c5⟩ := cells6 q1
     refine bodyPost_ret (v := .agg #[.int .i64 sm, .slice none 0 0, .slice none 0 0, .slice none 0 0, .slice none 0 0, .bool true]) (by simp [results, Tryz.results54, go_sem, c0, c1, c2, c3, c4, c5]) rfl ?_
     rw [HE.out]
     exact ⟨_, rfl, lost_own _ _ _, hB5.trans (below_row q2 (by omega) hB5.size)⟩
end Go.Proofs.YtpfbgenefjhcjaaGreatDoor
