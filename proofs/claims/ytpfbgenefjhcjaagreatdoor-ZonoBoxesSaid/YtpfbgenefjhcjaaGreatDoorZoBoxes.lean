/- law10.ZonoBoxes. -/
import Derived.Test.YtpfbgenefjhcjaaGreatDoorZoBoxP
import Derived.Test.YtpfbgenefjhcjaaGreatDoorZoBox
import Derived.Test.YtpfbgenefjhcjaaGreatDoorPZoStart
import Derived.Test.YtpfbgenefjhcjaaGreatDoorPZoFrame
namespace Go.Proofs.YtpfbgenefjhcjaaGreatDoor
set_option linter.unusedVariables false
set_option linter.unusedSimpArgs false
open Go Go.RowKit
set_option maxRecDepth 100000
attribute [local go_sem] run_store_flt
theorem box_good {z : ZD} {r : List Nat} (hz : Good z) (h : boxT z z.n.toNat = some r) : Good (boxZ z r) := by
  have hn1 := hz.n1
  have hl := boxT_len h
  have key : ∀ u ∈ r, fexp u ≠ 2047 ∧ 0 ≤ fz u := fun u hu => by
    obtain ⟨j, hj, rfl⟩ := List.mem_iff_getElem.1 hu
    have h1 := boxT_get h j (by omega)
    have e : r.getD j 0 = r[j] := by rw [List.getD_eq_getElem?_getD, List.getElem?_eq_getElem hj]; rfl
    rw [e] at h1
    have h2 := (round_turned (some (reachZ z j))).2.num.1
    rw [h1] at h2
    refine ⟨h2, Int.le_trans ?_ (up_ge h1)⟩
    unfold reachZ
    have h3 := hz.posAt j
    have h4 := sumTo_le (f := fun _ => 0) (g := fun k => zabs (fz ((colZ z k).getD j 0))) z.g.length fun k _ => zabs_nn _
    rw [sumTo_zero] at h4
    omega
  refine ⟨rfl, hz.n1, hz.n2, ?_, (rowD_iff _ _).2 ⟨fun u hu => (key u hu).1, ?_⟩, rfl, fun u hu => ?_, fun k hk => ?_⟩
  · exact rowD_plain hz.c
  · show ((r.length : Nat) : Int) = z.n
    rw [hl]
    omega
  · unfold neg0
    rw [decide_eq_false]
    have := (key u hu).2
    omega
  · exact absurd hk (Nat.not_lt_zero k)
theorem NumIs.nv {w : World} {ng : Bool} {A : Option Addr} {n cap : Nat} {E z : Int} (h : NumIs w ng (.slice A n cap) E z) : NumR (-2212) 5000 w ⟨ng, A, n, cap, E⟩ z := by
  obtain ⟨M, _, _, h3, h4, _⟩ := NumIs.def'.1 h
  exact ⟨h, h3, h4⟩
theorem flt_le {a b : Nat} (ha : a < B64) (hb : b < B64) (ea : fexp a ≠ 2047) (eb : fexp b ≠ 2047) (h : fz a ≤ fz b) : FloatKind.f64.format.order a b = some .lt ∨ FloatKind.f64.format.order a b = some .eq := by
  rcases Int.lt_or_eq_of_le h with h1 | h1
  · left
    have := order_lt_iff a b ha hb ea eb
    rw [decide_eq_true h1] at this
    exact beq_iff_eq.1 this
  · right
    have := order_eq_iff a b ha hb ea eb
    rw [decide_eq_true h1] at this
    exact beq_iff_eq.1 this
/-- What holds of the box of a good one. -/
theorem sup_ord {z : ZD} {r d : List Nat} (hz : Good z) (sd : Small d) (h : boxT z z.n.toNat = some r) : (supD z d).2 = true → (supD (boxZ z r) d).2 = true → FloatKind.f64.format.order (supD z d).1 (supD (boxZ z r) d).1 = some .lt ∨ FloatKind.f64.format.order (supD z d).1 (supD (boxZ z r) d).1 = some .eq := by
  intro h1 h2
  have hbg := box_good hz h
  have key : ∀ y, Good y → (supD y d).2 = true → roundS 1 (some (supZ y d)) = ((supD y d).1, true) := fun y hy h => by
    unfold supD at h ⊢
    rw [(goodD_iff y).2 hy, Bool.true_and] at h ⊢
    cases hr : rowD d y.n with
    | false => rw [hr] at h; cases h
    | true =>
      rw [hr, if_pos rfl] at h
      rw [if_pos rfl, ← h]
  have k1 := key z hz h1
  have k2 := key _ hbg h2
  have n1 := (round_turned (some (supZ z d))).2
  have n2 := (round_turned (some (supZ (boxZ z r) d))).2
  rw [k1] at n1
  rw [k2] at n2
  exact flt_le n1.lt.1 n2.lt.1 n1.num.1 n2.num.1 (up_mono k1 k2 (sup_box sd h))
set_option maxHeartbeats 16000000 in
theorem boxes_any (w : World) (v : Value) (z : ZD) (h : ZIn w v z) (Ad : Option Addr) (cd : Nat) (d : List Nat) (hd0 : FIn w Ad cd d) (Al : Option Addr) (cl : Nat) (l : List Int) (hl0 : IIn w Al cl l) (nb : Int) (lo : -9223372036854775808 ≤ nb) (hi : nb ≤ 9223372036854775807) :
    Calls Tryz.prog 10 #[v, .slice Ad d.length cd, .slice Al l.length cl, .int .i64 nb] w fun e w' => e = .returned (.bool true) ∧ Below w.heap.size w w' := by
  obtain ⟨A, B, C, D, kA, kB, kC, kD, rfl, hc, hk, hgn⟩ := h
  have hb1 := below_alloc w (.cells #[.int .i64 z.n, .slice A z.c.length kA, .slice B z.ids.length kB, .slice C z.g.length kC, .slice D z.r.length kD, .bool z.bad] 26)
  have hx := heap_alloc_new w (.cells #[.int .i64 z.n, .slice A z.c.length kA, .slice B z.ids.length kB, .slice C z.g.length kC, .slice D z.r.length kD, .bool z.bad] 26)
  have hof := Of10_any _ _ z ⟨A, B, C, D, kA, kB, kC, kD, rfl, hc.below hb1⟩ hk
  unfold zval at hof ⊢
  have hbk := boxD_ok hk
  clear hgn
  cases hgd : goodD z with
  | false =>
    obtain ⟨y, hbd, hyb, hyk⟩ : ∃ y, boxD z = y ∧ y.bad = true ∧ ZOk y := ⟨_, rfl, by rw [box_no hgd]; rfl, hbk⟩
    have hygd : goodD y = false := by unfold goodD headD; rw [hyb]; rfl
    go_enter Tryz.func10, Tryz.ntmps10
    go_wp2_with fail
    refine hof.mono ?_
    rintro e w1 ⟨v1, rfl, ⟨A0, B0, C0, D0, kA0, kB0, kC0, kD0, rfl, hu1⟩, hb⟩
    have g0 : ZB w1 w.heap.size _ _ _ _ _ _ := ZB.below hx hb
    have hB := hb1.trans (hb.mono hb1.size)
    have hre := Reals_any w1 _ z ⟨A0, B0, C0, D0, kA0, kB0, kC0, kD0, rfl, hu1⟩ hk
    unfold zval at hre ⊢
    clear hof hx hb hb1
    go_wp2_with fail
    refine hre.mono ?_
    rintro e w2 (⟨hg', v2, rfl, _, hb⟩ | ⟨_, rfl, hb⟩)
    · rw [hgd] at hg'
      cases hg'
    unfold noReal
    have hba := below_alloc w2 (.cells #[.int .i64 0, .slice none 0 0, .slice none 0 0, .slice none 0 0, .slice none 0 0] 61)
    have gr := heap_alloc_new w2 (.cells #[.int .i64 0, .slice none 0 0, .slice none 0 0, .slice none 0 0, .slice none 0 0] 61)
    replace g0 := (g0.below hb).below hba
    replace hB := (hB.trans (hb.mono hB.size)).trans (hba.mono (hB.trans (hb.mono hB.size)).size)
    have hbx := Box_any _ _ z ⟨A, B, C, D, kA, kB, kC, kD, rfl, hc.below hB⟩ hk
    unfold zval TellsBox at hbx
    rw [hbd] at hbx
    obtain ⟨x0, x1, x2, x3, x4, x5⟩ := cells6 g0
    clear hre hb hba hu1
    go_wp2_with fail
    refine hbx.mono ?_
    rintro e w3 ⟨v3, rfl, hv3, hb⟩
    obtain ⟨A2, B2, C2, D2, kA2, kB2, kC2, kD2, rfl, hy⟩ := hv3.is
    unfold zval
    rw [hyb]
    have hba := below_alloc w3 (.cells #[.int .i64 y.n, .slice A2 y.c.length kA2, .slice B2 y.ids.length kB2, .slice C2 y.g.length kC2, .slice D2 y.r.length kD2, .bool true] 26)
    have gy : ZB (w3.alloc (.cells #[.int .i64 y.n, .slice A2 y.c.length kA2, .slice B2 y.ids.length kB2, .slice C2 y.g.length kC2, .slice D2 y.r.length kD2, .bool true] 26)) w3.heap.size _ _ _ _ _ _ := ZB.new w3 _ _ _ _ _ _
    replace gr := (hb.block _ (Array.getElem?_eq_some_iff.1 gr).1).trans gr
    replace gr := (hba.block _ (Array.getElem?_eq_some_iff.1 gr).1).trans gr
    replace g0 := (g0.below hb).below hba
    replace hB := (hB.trans (hb.mono hB.size)).trans (hba.mono (hB.trans (hb.mono hB.size)).size)
    skip
    replace hy := hy.below hba
    have hofy := Of10_any _ _ y ⟨A2, B2, C2, D2, kA2, kB2, kC2, kD2, rfl, hy⟩ hyk
    unfold zval at hofy
    rw [hyb] at hofy
    clear x0 x1 x2 x3 x4 x5 hbx hv3 hb hba
    obtain ⟨y0, y1, y2, y3, y4, y5⟩ := cells6 gy
    go_wp2_with fail
    refine hofy.mono ?_
    rintro e w4 ⟨v4, rfl, ⟨A3, B3, C3, D3, kA3, kB3, kC3, kD3, rfl, hu3⟩, hb⟩
    replace gr := (hb.block _ (Array.getElem?_eq_some_iff.1 gr).1).trans gr
    replace g0 := g0.below hb
    replace gy := gy.below hb
    replace hB := hB.trans (hb.mono hB.size)
    skip
    replace hy := hy.below hb
    have hrey := Reals_any w4 _ y ⟨A3, B3, C3, D3, kA3, kB3, kC3, kD3, rfl, hu3⟩ hyk
    unfold zval at hrey ⊢
    rw [hyb] at hrey ⊢
    clear y0 y1 y2 y3 y4 y5 hofy hb hu3
    go_wp2_with fail
    refine hrey.mono ?_
    rintro e w5 (⟨hg', v5, rfl, _, hb⟩ | ⟨_, rfl, hb⟩)
    · rw [hygd] at hg'
      cases hg'
    unfold noReal
    have hba := below_alloc w5 (.cells #[.int .i64 0, .slice none 0 0, .slice none 0 0, .slice none 0 0, .slice none 0 0] 61)
    have gq := heap_alloc_new w5 (.cells #[.int .i64 0, .slice none 0 0, .slice none 0 0, .slice none 0 0, .slice none 0 0] 61)
    replace gr := (hb.block _ (Array.getElem?_eq_some_iff.1 gr).1).trans gr
    replace gr := (hba.block _ (Array.getElem?_eq_some_iff.1 gr).1).trans gr
    replace g0 := (g0.below hb).below hba
    replace gy := (gy.below hb).below hba
    replace hB := (hB.trans (hb.mono hB.size)).trans (hba.mono (hB.trans (hb.mono hB.size)).size)
    skip
    replace hy := (hy.below hb).below hba
    clear hrey hb
    go_upto_region 4 with fail
    clear hba
    generalize w5.alloc (.cells #[.int .i64 0, .slice none 0 0, .slice none 0 0, .slice none 0 0, .slice none 0 0] 61) = W at *
    generalize w5.heap.size = b12 at *
    generalize w3.heap.size = b11 at *
    generalize w2.heap.size = b9 at *
    obtain ⟨y0, y1, y2, y3, y4, y5⟩ := cells6 gy
    go_wp2_with fail
    refine (started_any _).mono ?_
    rintro e w6 ⟨rfl, hb⟩
    go_wp2_with fail
    go_ret
    exact ⟨rfl, hB.trans (hb.mono hB.size)⟩
  | true =>
    have hz := (goodD_iff z).1 hgd
    have hN1 := hz.n1
    have hN2 := hz.n2
    have hcols := hz.cols
    cases hT : boxT z z.n.toNat with
    | none =>
      obtain ⟨y, hbd, hyb, hyk⟩ : ∃ y, boxD z = y ∧ y.bad = true ∧ ZOk y := ⟨_, rfl, by unfold boxD; rw [hgd, hT]; rfl, hbk⟩
      have hygd : goodD y = false := by unfold goodD headD; rw [hyb]; rfl
      go_enter Tryz.func10, Tryz.ntmps10
      go_wp2_with fail
      refine hof.mono ?_
      rintro e w1 ⟨v1, rfl, ⟨A0, B0, C0, D0, kA0, kB0, kC0, kD0, rfl, hu1⟩, hb⟩
      have g0 : ZB w1 w.heap.size _ _ _ _ _ _ := ZB.below hx hb
      have hB := hb1.trans (hb.mono hb1.size)
      have hre := Reals_any w1 _ z ⟨A0, B0, C0, D0, kA0, kB0, kC0, kD0, rfl, hu1⟩ hk
      unfold zval at hre ⊢
      clear hof hx hb hb1
      go_wp2_with fail
      refine hre.mono ?_
      rintro e w2 (⟨_, v2, rfl, ⟨A1, B1, C1, D1, kA1, kB1, kC1, kD1, rfl, hR⟩, hb⟩ | ⟨hg', rfl, hb⟩)
      rotate_left
      · rw [hgd] at hg'
        cases hg'
      unfold rval
      have hba := below_alloc w2 (.cells #[.int .i64 z.n, .slice A1 z.c.length kA1, .slice B1 z.ids.length kB1, .slice C1 z.g.length kC1, .slice D1 z.r.length kD1] 61)
      have gr := heap_alloc_new w2 (.cells #[.int .i64 z.n, .slice A1 z.c.length kA1, .slice B1 z.ids.length kB1, .slice C1 z.g.length kC1, .slice D1 z.r.length kD1] 61)
      replace g0 := (g0.below hb).below hba
      replace hB := (hB.trans (hb.mono hB.size)).trans (hba.mono (hB.trans (hb.mono hB.size)).size)
      replace hR := hR.below hba
      have hbx := Box_any _ _ z ⟨A, B, C, D, kA, kB, kC, kD, rfl, hc.below hB⟩ hk
      unfold zval TellsBox at hbx
      rw [hbd] at hbx
      obtain ⟨x0, x1, x2, x3, x4, x5⟩ := cells6 g0
      clear hre hb hba hu1
      go_wp2_with fail
      refine hbx.mono ?_
      rintro e w3 ⟨v3, rfl, hv3, hb⟩
      obtain ⟨A2, B2, C2, D2, kA2, kB2, kC2, kD2, rfl, hy⟩ := hv3.is
      unfold zval
      rw [hyb]
      have hba := below_alloc w3 (.cells #[.int .i64 y.n, .slice A2 y.c.length kA2, .slice B2 y.ids.length kB2, .slice C2 y.g.length kC2, .slice D2 y.r.length kD2, .bool true] 26)
      have gy : ZB (w3.alloc (.cells #[.int .i64 y.n, .slice A2 y.c.length kA2, .slice B2 y.ids.length kB2, .slice C2 y.g.length kC2, .slice D2 y.r.length kD2, .bool true] 26)) w3.heap.size _ _ _ _ _ _ := ZB.new w3 _ _ _ _ _ _
      replace gr := (hb.block _ (Array.getElem?_eq_some_iff.1 gr).1).trans gr
      replace gr := (hba.block _ (Array.getElem?_eq_some_iff.1 gr).1).trans gr
      replace g0 := (g0.below hb).below hba
      replace hB := (hB.trans (hb.mono hB.size)).trans (hba.mono (hB.trans (hb.mono hB.size)).size)
      replace hR := (hR.below hb).below hba
      replace hy := hy.below hba
      have hofy := Of10_any _ _ y ⟨A2, B2, C2, D2, kA2, kB2, kC2, kD2, rfl, hy⟩ hyk
      unfold zval at hofy
      rw [hyb] at hofy
      clear x0 x1 x2 x3 x4 x5 hbx hv3 hb hba
      obtain ⟨y0, y1, y2, y3, y4, y5⟩ := cells6 gy
      go_wp2_with fail
      refine hofy.mono ?_
      rintro e w4 ⟨v4, rfl, ⟨A3, B3, C3, D3, kA3, kB3, kC3, kD3, rfl, hu3⟩, hb⟩
      replace gr := (hb.block _ (Array.getElem?_eq_some_iff.1 gr).1).trans gr
      replace g0 := g0.below hb
      replace gy := gy.below hb
      replace hB := hB.trans (hb.mono hB.size)
      replace hR := hR.below hb
      replace hy := hy.below hb
      have hrey := Reals_any w4 _ y ⟨A3, B3, C3, D3, kA3, kB3, kC3, kD3, rfl, hu3⟩ hyk
      unfold zval at hrey ⊢
      rw [hyb] at hrey ⊢
      clear y0 y1 y2 y3 y4 y5 hofy hb hu3
      go_wp2_with fail
      refine hrey.mono ?_
      rintro e w5 (⟨hg', v5, rfl, _, hb⟩ | ⟨_, rfl, hb⟩)
      · rw [hygd] at hg'
        cases hg'
      unfold noReal
      have hba := below_alloc w5 (.cells #[.int .i64 0, .slice none 0 0, .slice none 0 0, .slice none 0 0, .slice none 0 0] 61)
      have gq := heap_alloc_new w5 (.cells #[.int .i64 0, .slice none 0 0, .slice none 0 0, .slice none 0 0, .slice none 0 0] 61)
      replace gr := (hb.block _ (Array.getElem?_eq_some_iff.1 gr).1).trans gr
      replace gr := (hba.block _ (Array.getElem?_eq_some_iff.1 gr).1).trans gr
      replace g0 := (g0.below hb).below hba
      replace gy := (gy.below hb).below hba
      replace hB := (hB.trans (hb.mono hB.size)).trans (hba.mono (hB.trans (hb.mono hB.size)).size)
      replace hR := (hR.below hb).below hba
      replace hy := (hy.below hb).below hba
      clear hrey hb
      go_upto_region 4 with fail
      clear hba
      generalize w5.alloc (.cells #[.int .i64 0, .slice none 0 0, .slice none 0 0, .slice none 0 0, .slice none 0 0] 61) = W at *
      generalize w5.heap.size = b12 at *
      generalize w3.heap.size = b11 at *
      generalize w2.heap.size = b9 at *
      obtain ⟨y0, y1, y2, y3, y4, y5⟩ := cells6 gy
      go_wp2_with fail
      refine (started_any _).mono ?_
      rintro e w6 ⟨rfl, hb⟩
      go_wp2_with fail
      go_ret
      exact ⟨rfl, hB.trans (hb.mono hB.size)⟩
    | some r =>
      have hyb := rfl (a := (boxZ z r).bad)
      have hbd : boxD z = boxZ z r := box_end hz hT
      have hyk : ZOk (boxZ z r) := hbd ▸ hbk
      have hygood := box_good hz hT
      have hygd := (goodD_iff _).2 hygood
      have hyc : ∀ i, fz ((boxZ z r).c.getD i 0) = fz (z.c.getD i 0) := fun i => by
        show fz ((z.c.map plainU).getD i 0) = _
        rw [getD_map_plain, plainU_fz]
      have hyr : ∀ i, i < z.n.toNat → reachZ z i ≤ fz ((boxZ z r).r.getD i 0) := fun i hi => up_ge (boxT_get hT i hi)
      have HSU := Lib.hid (sup_ord hz hd0.small hT)
      have HY3 := Lib.hid (show (boxZ z r).n = z.n ∧ (boxZ z r).ids.length = 0 ∧ (boxZ z r).g.length = 0 from ⟨rfl, rfl, rfl⟩)
      replace hyb : (boxZ z r).bad = false := rfl
      have hp1 : ∀ W', Below w.heap.size w W' → Calls Tryz.prog 36 #[.slice Al l.length cl, .int .i64 0, .int .i64 (z.g.length : Int), .int .i64 nb] W' fun e w' => ∃ A' cap', e = .returned (.slice A' z.g.length cap') ∧ NLt (-16) 0 w' A' cap' (partsZ l 0 z.g.length nb) ∧ Below W'.heap.size W' w' := fun W' hb => parts_any W' Al cl l 0 z.g.length nb (hl0.at_.row.below (Nat.le_refl _) hb) (by decide) (by omega)
      have hp2 : ∀ W', Below w.heap.size w W' → Calls Tryz.prog 36 #[.slice Al l.length cl, .int .i64 (z.g.length : Int), .int .i64 z.n, .int .i64 nb] W' fun e w' => ∃ A' cap', e = .returned (.slice A' z.n.toNat cap') ∧ NLt (-16) 0 w' A' cap' (partsZ l z.g.length z.n.toNat nb) ∧ Below W'.heap.size W' w' := fun W' hb => by
        have h := parts_any W' Al cl l z.g.length z.n.toNat nb (hl0.at_.row.below (Nat.le_refl _) hb) (by omega) (by omega)
        rw [Int.toNat_of_nonneg (by omega)] at h
        exact h
      have HPT := Lib.hid (show ∀ i, i < z.n.toNat → ∀ pi, (pointZ z (partsZ l 0 z.g.length nb) (partsZ l z.g.length z.n.toNat nb) z.n.toNat)[i]? = some pi → zabs (pi - fz (z.c.getD i 0)) ≤ reachZ z i ∧ ((pi + -fz (z.c.getD i 0)).natAbs < W32 ^ 400 ∧ ∀ q : Int, q.natAbs < FB → (zabs (pi + -fz (z.c.getD i 0)) + -q).natAbs < W32 ^ 400) from fun i hi pi hpi => by
        have e : pi = ptZ z (partsZ l 0 z.g.length nb) (partsZ l z.g.length z.n.toNat nb) i := by
          unfold pointZ at hpi
          rw [List.getElem?_map, List.getElem?_range hi] at hpi
          exact (Option.some.inj hpi).symm
        have h1 := pt_near hz (parts_unit l 0 z.g.length nb) (parts_unit l z.g.length z.n.toNat nb) i
        have h2 := pt_bound hz (parts_unit l 0 z.g.length nb) (parts_unit l z.g.length z.n.toNat nb) i z.g.length
        have h3 := fz_lt _ (getD_num z.c hz.numC i)
        rw [← e] at h1
        change (ptZ z (partsZ l 0 z.g.length nb) (partsZ l z.g.length z.n.toNat nb) i).natAbs ≤ _ at h2
        rw [← e] at h2
        have hk3 : (3 + z.g.length) * FB = FB + (2 + z.g.length) * FB := by rw [show 3 + z.g.length = 1 + (2 + z.g.length) by omega, Nat.add_mul, Nat.one_mul]
        have hk4 : (4 + z.g.length) * FB = FB + (3 + z.g.length) * FB := by rw [show 4 + z.g.length = 1 + (3 + z.g.length) by omega, Nat.add_mul, Nat.one_mul]
        have b1 : (pi + -fz (z.c.getD i 0)).natAbs ≤ (3 + z.g.length) * FB := by omega
        refine ⟨h1, few_W _ (3 + z.g.length) (by omega) (Nat.le_trans b1 (Nat.mul_le_mul_left _ FB_le_PB)), fun q hq => few_W _ (4 + z.g.length) (by omega) (Nat.le_trans ?_ (Nat.mul_le_mul_left _ FB_le_PB))⟩
        unfold zabs
        omega)
      generalize boxZ z r = y at *
      go_enter Tryz.func10, Tryz.ntmps10
      go_wp2_with fail
      refine hof.mono ?_
      rintro e w1 ⟨v1, rfl, ⟨A0, B0, C0, D0, kA0, kB0, kC0, kD0, rfl, hu1⟩, hb⟩
      have g0 : ZB w1 w.heap.size _ _ _ _ _ _ := ZB.below hx hb
      have hB := hb1.trans (hb.mono hb1.size)
      have hre := Reals_any w1 _ z ⟨A0, B0, C0, D0, kA0, kB0, kC0, kD0, rfl, hu1⟩ hk
      unfold zval at hre ⊢
      clear hof hx hb hb1
      go_wp2_with fail
      refine hre.mono ?_
      rintro e w2 (⟨_, v2, rfl, ⟨A1, B1, C1, D1, kA1, kB1, kC1, kD1, rfl, hR⟩, hb⟩ | ⟨hg', rfl, hb⟩)
      rotate_left
      · rw [hgd] at hg'
        cases hg'
      unfold rval
      have hba := below_alloc w2 (.cells #[.int .i64 z.n, .slice A1 z.c.length kA1, .slice B1 z.ids.length kB1, .slice C1 z.g.length kC1, .slice D1 z.r.length kD1] 61)
      have gr := heap_alloc_new w2 (.cells #[.int .i64 z.n, .slice A1 z.c.length kA1, .slice B1 z.ids.length kB1, .slice C1 z.g.length kC1, .slice D1 z.r.length kD1] 61)
      replace g0 := (g0.below hb).below hba
      replace hB := (hB.trans (hb.mono hB.size)).trans (hba.mono (hB.trans (hb.mono hB.size)).size)
      replace hR := hR.below hba
      have hbx := Box_any _ _ z ⟨A, B, C, D, kA, kB, kC, kD, rfl, hc.below hB⟩ hk
      unfold zval TellsBox at hbx
      rw [hbd] at hbx
      obtain ⟨x0, x1, x2, x3, x4, x5⟩ := cells6 g0
      clear hre hb hba hu1
      go_wp2_with fail
      refine hbx.mono ?_
      rintro e w3 ⟨v3, rfl, hv3, hb⟩
      obtain ⟨A2, B2, C2, D2, kA2, kB2, kC2, kD2, rfl, hy⟩ := hv3.is
      unfold zval
      rw [hyb]
      have hba := below_alloc w3 (.cells #[.int .i64 y.n, .slice A2 y.c.length kA2, .slice B2 y.ids.length kB2, .slice C2 y.g.length kC2, .slice D2 y.r.length kD2, .bool false] 26)
      have gy : ZB (w3.alloc (.cells #[.int .i64 y.n, .slice A2 y.c.length kA2, .slice B2 y.ids.length kB2, .slice C2 y.g.length kC2, .slice D2 y.r.length kD2, .bool false] 26)) w3.heap.size _ _ _ _ _ _ := ZB.new w3 _ _ _ _ _ _
      replace gr := (hb.block _ (Array.getElem?_eq_some_iff.1 gr).1).trans gr
      replace gr := (hba.block _ (Array.getElem?_eq_some_iff.1 gr).1).trans gr
      replace g0 := (g0.below hb).below hba
      replace hB := (hB.trans (hb.mono hB.size)).trans (hba.mono (hB.trans (hb.mono hB.size)).size)
      replace hR := (hR.below hb).below hba
      replace hy := hy.below hba
      have hofy := Of10_any _ _ y ⟨A2, B2, C2, D2, kA2, kB2, kC2, kD2, rfl, hy⟩ hyk
      unfold zval at hofy
      rw [hyb] at hofy
      clear x0 x1 x2 x3 x4 x5 hbx hv3 hb hba
      obtain ⟨y0, y1, y2, y3, y4, y5⟩ := cells6 gy
      go_wp2_with fail
      refine hofy.mono ?_
      rintro e w4 ⟨v4, rfl, ⟨A3, B3, C3, D3, kA3, kB3, kC3, kD3, rfl, hu3⟩, hb⟩
      replace gr := (hb.block _ (Array.getElem?_eq_some_iff.1 gr).1).trans gr
      replace g0 := g0.below hb
      replace gy := gy.below hb
      replace hB := hB.trans (hb.mono hB.size)
      replace hR := hR.below hb
      replace hy := hy.below hb
      have hrey := Reals_any w4 _ y ⟨A3, B3, C3, D3, kA3, kB3, kC3, kD3, rfl, hu3⟩ hyk
      unfold zval at hrey ⊢
      rw [hyb] at hrey ⊢
      clear y0 y1 y2 y3 y4 y5 hofy hb hu3
      go_wp2_with fail
      refine hrey.mono ?_
      rintro e w5 (⟨_, v5, rfl, ⟨A4, B4, C4, D4, kA4, kB4, kC4, kD4, rfl, hR4⟩, hb⟩ | ⟨hg', rfl, hb⟩)
      rotate_left
      · rw [hygd] at hg'
        cases hg'
      unfold rval
      have hba := below_alloc w5 (.cells #[.int .i64 y.n, .slice A4 y.c.length kA4, .slice B4 y.ids.length kB4, .slice C4 y.g.length kC4, .slice D4 y.r.length kD4] 61)
      have gq := heap_alloc_new w5 (.cells #[.int .i64 y.n, .slice A4 y.c.length kA4, .slice B4 y.ids.length kB4, .slice C4 y.g.length kC4, .slice D4 y.r.length kD4] 61)
      replace gr := (hb.block _ (Array.getElem?_eq_some_iff.1 gr).1).trans gr
      replace gr := (hba.block _ (Array.getElem?_eq_some_iff.1 gr).1).trans gr
      replace g0 := (g0.below hb).below hba
      replace gy := (gy.below hb).below hba
      replace hB := (hB.trans (hb.mono hB.size)).trans (hba.mono (hB.trans (hb.mono hB.size)).size)
      replace hR := (hR.below hb).below hba
      replace hR4 := hR4.below hba
      replace hy := (hy.below hb).below hba
      clear hrey hb
      go_upto_region 4 with fail
      clear hba
      generalize w5.alloc (.cells #[.int .i64 y.n, .slice A4 y.c.length kA4, .slice B4 y.ids.length kB4, .slice C4 y.g.length kC4, .slice D4 y.r.length kD4] 61) = W at *
      generalize w5.heap.size = b12 at *
      generalize w3.heap.size = b11 at *
      generalize w2.heap.size = b9 at *
      obtain ⟨y0, y1, y2, y3, y4, y5⟩ := cells6 gy
      obtain ⟨q0, q1, q2, q3, q4⟩ := cells5 gq
      obtain ⟨r0, r1, r2, r3, r4⟩ := cells5 gr
      go_upto_region 6 with fail
      obtain ⟨hyn, hyi, hyg0⟩ := HY3.out
      go_upto_region 8 with fail
      clear y0 y1 y2 y3 y4 y5 q0 q1 q2 q3 q4 r0 r1 r2 r3 r4 hyn hyi hyg0
      have hS : ∀ W', Below W.heap.size W W' → (fun w' => w'.cell? ⟨b9, 0, none⟩ = some (.int .i64 z.n) ∧ w'.cell? ⟨b9, 1, none⟩ = some (.slice A1 z.c.length kA1) ∧ w'.cell? ⟨b9, 2, none⟩ = some (.slice B1 z.ids.length kB1) ∧ w'.cell? ⟨b9, 3, none⟩ = some (.slice C1 z.g.length kC1) ∧ w'.cell? ⟨b9, 4, none⟩ = some (.slice D1 z.r.length kD1)) W' := fun W' hb => cells5 ((hb.block _ (Array.getElem?_eq_some_iff.1 gr).1).trans gr)
      have hd := (Below.refl W.heap.size W).drew
      refine late_begin (fun w' => w'.cell? ⟨b9, 0, none⟩ = some (.int .i64 z.n) ∧ w'.cell? ⟨b9, 1, none⟩ = some (.slice A1 z.c.length kA1) ∧ w'.cell? ⟨b9, 2, none⟩ = some (.slice B1 z.ids.length kB1) ∧ w'.cell? ⟨b9, 3, none⟩ = some (.slice C1 z.g.length kC1) ∧ w'.cell? ⟨b9, 4, none⟩ = some (.slice D1 z.r.length kD1)) [] (by kernel_rfl) ?_
      refine late_take (i := 0) (v := ?_) (some 66) rfl rfl (by kernel_rfl) (by kernel_rfl) (by kernel_rfl) (by kernel_rfl) (fun _ _ _ h => h) (by kernel_rfl) (hS _ hd) ?_ ?_
      rotate_left
      · (intro w hSw; (try dsimp only at hSw); go_simp; try rfl)
      try simp only [Act.put, List.setIfInBounds_toArray, List.set_cons_zero, List.set_cons_succ]
      refine late_take (i := 1) (v := ?_) (some 67) rfl rfl (by kernel_rfl) (by kernel_rfl) (by kernel_rfl) (by kernel_rfl) (fun _ _ _ h => h) (by kernel_rfl) (hS _ hd) ?_ ?_
      rotate_left
      · (intro w hSw; (try dsimp only at hSw); go_simp; try rfl)
      try simp only [Act.put, List.setIfInBounds_toArray, List.set_cons_zero, List.set_cons_succ]
      refine late_take (i := 2) (v := ?_) (some 68) rfl rfl (by kernel_rfl) (by kernel_rfl) (by kernel_rfl) (by kernel_rfl) (fun _ _ _ h => h) (by kernel_rfl) (hS _ hd) ?_ ?_
      rotate_left
      · (intro w hSw; (try dsimp only at hSw); go_simp; try rfl)
      try simp only [Act.put, List.setIfInBounds_toArray, List.set_cons_zero, List.set_cons_succ]
      refine late_take (i := 3) (v := ?_) (some 69) rfl rfl (by kernel_rfl) (by kernel_rfl) (by kernel_rfl) (by kernel_rfl) (fun _ _ _ h => h) (by kernel_rfl) (hS _ hd) ?_ ?_
      rotate_left
      · (intro w hSw; (try dsimp only at hSw); go_simp; try rfl)
      try simp only [Act.put, List.setIfInBounds_toArray, List.set_cons_zero, List.set_cons_succ]
      refine late_take (i := 4) (v := ?_) (some 70) rfl rfl (by kernel_rfl) (by kernel_rfl) (by kernel_rfl) (by kernel_rfl) (fun _ _ _ h => h) (by kernel_rfl) (hS _ hd) ?_ ?_
      rotate_left
      · (intro w hSw; (try dsimp only at hSw); go_simp; try rfl)
      try simp only [Act.put, List.setIfInBounds_toArray, List.set_cons_zero, List.set_cons_succ]
      refine late_take (i := 5) (v := ?_) (some 71) rfl rfl (by kernel_rfl) (by kernel_rfl) (by kernel_rfl) (by kernel_rfl) (fun _ _ _ h => h) (by kernel_rfl) (hS _ hd) ?_ ?_
      rotate_left
      · (intro w hSw; (try dsimp only at hSw); go_simp; try rfl)
      try simp only [Act.put, List.setIfInBounds_toArray, List.set_cons_zero, List.set_cons_succ]
      refine late_take (i := 7) (v := ?_) (some 73) rfl rfl (by kernel_rfl) (by kernel_rfl) (by kernel_rfl) (by kernel_rfl) (fun _ _ _ h => h) (by kernel_rfl) (hS _ hd) ?_ ?_
      rotate_left
      · (intro w hSw; (try dsimp only at hSw); go_simp; try rfl)
      try simp only [Act.put, List.setIfInBounds_toArray, List.set_cons_zero, List.set_cons_succ]
      refine late_take (i := 8) (v := ?_) (some 74) rfl rfl (by kernel_rfl) (by kernel_rfl) (by kernel_rfl) (by kernel_rfl) (fun _ _ _ h => h) (by kernel_rfl) (hS _ hd) ?_ ?_
      rotate_left
      · (intro w hSw; (try dsimp only at hSw); go_simp; try rfl)
      try simp only [Act.put, List.setIfInBounds_toArray, List.set_cons_zero, List.set_cons_succ]
      refine late_take (i := 9) (v := ?_) (some 75) rfl rfl (by kernel_rfl) (by kernel_rfl) (by kernel_rfl) (by kernel_rfl) (fun _ _ _ h => h) (by kernel_rfl) (hS _ hd) ?_ ?_
      rotate_left
      · (intro w hSw; (try dsimp only at hSw); go_simp; try rfl)
      try simp only [Act.put, List.setIfInBounds_toArray, List.set_cons_zero, List.set_cons_succ]
      refine late_take (i := 10) (v := ?_) (some 76) rfl rfl (by kernel_rfl) (by kernel_rfl) (by kernel_rfl) (by kernel_rfl) (fun _ _ _ h => h) (by kernel_rfl) (hS _ hd) ?_ ?_
      rotate_left
      · (intro w hSw; (try dsimp only at hSw); go_simp; try rfl)
      try simp only [Act.put, List.setIfInBounds_toArray, List.set_cons_zero, List.set_cons_succ]
      refine late_take (i := 11) (v := ?_) (some 77) rfl rfl (by kernel_rfl) (by kernel_rfl) (by kernel_rfl) (by kernel_rfl) (fun _ _ _ h => h) (by kernel_rfl) (hS _ hd) ?_ ?_
      rotate_left
      · (intro w hSw; (try dsimp only at hSw); go_simp; try rfl)
      try simp only [Act.put, List.setIfInBounds_toArray, List.set_cons_zero, List.set_cons_succ]
      refine late_take (i := 12) (v := ?_) (some 78) rfl rfl (by kernel_rfl) (by kernel_rfl) (by kernel_rfl) (by kernel_rfl) (fun _ _ _ h => h) (by kernel_rfl) (hS _ hd) ?_ ?_
      rotate_left
      · (intro w hSw; (try dsimp only at hSw); go_simp; try rfl)
      try simp only [Act.put, List.setIfInBounds_toArray, List.set_cons_zero, List.set_cons_succ]
      refine late_take (i := 13) (v := ?_) (some 79) rfl rfl (by kernel_rfl) (by kernel_rfl) (by kernel_rfl) (by kernel_rfl) (fun _ _ _ h => h) (by kernel_rfl) (hS _ hd) ?_ ?_
      rotate_left
      · (intro w hSw; (try dsimp only at hSw); go_simp; try rfl)
      try simp only [Act.put, List.setIfInBounds_toArray, List.set_cons_zero, List.set_cons_succ]
      refine late_one (i := 6) rfl (by kernel_rfl) ?_
      intro K hK
      go_simp
      refine (hp1 _ (hB.trans (hd.mono hB.size))).mono ?_
      rintro e w6 ⟨Ae, ke, rfl, hE, hb6⟩
      have h6 := hd.trans (hb6.mono hd.size)
      try show K _ _
      refine hK.out _ _ (Or.inr (hS _ h6)) ?_
      clear hK K
      try simp only [Act.put, List.setIfInBounds_toArray, List.set_cons_zero, List.set_cons_succ]
      refine late_one (i := 14) rfl (by kernel_rfl) ?_
      intro K hK
      go_simp
      refine (hp2 _ (hB.trans (h6.mono hB.size))).mono ?_
      rintro e w7 ⟨Ar, kr, rfl, hF, hb7⟩
      have h7 := h6.trans (hb7.mono h6.size)
      try show K _ _
      refine hK.out _ _ (Or.inr (hS _ h7)) ?_
      clear hK K
      try simp only [Act.put, List.setIfInBounds_toArray, List.set_cons_zero, List.set_cons_succ]
      refine late_one (i := 15) rfl (by kernel_rfl) ?_
      intro K hK
      go_simp
      have hpt := Point_any _ A1 B1 C1 D1 Ae Ar kA1 kB1 kC1 kD1 ke kr z.g.length z.n.toNat z _ _ (hR.below h7) hz (hE.below hb7) hF (partsZ_length _ _ _ _) (partsZ_length _ _ _ _) (Nat.le_refl _) (by omega) (parts_unit _ _ _ _) (parts_unit _ _ _ _) (by omega) (by omega)
      unfold rval at hpt
      refine hpt.mono ?_
      rintro e w8 ⟨Ap, kp, rfl, hP, hb8⟩
      have h8 := h7.trans (hb8.mono h7.size)
      try show K _ _
      refine hK.out _ _ (Or.inr (hS _ h8)) ?_
      clear hK K
      try simp only [Act.put, List.setIfInBounds_toArray, List.set_cons_zero, List.set_cons_succ]
      refine late_take (i := 16) (v := ?_) (some 14) rfl rfl (by kernel_rfl) (by kernel_rfl) (by kernel_rfl) (by kernel_rfl) (fun _ _ _ h => h) (by kernel_rfl) (hS _ h8) ?_ ?_
      rotate_left
      · (intro w hSw; (try dsimp only at hSw); go_simp; try rfl)
      try simp only [Act.put, List.setIfInBounds_toArray, List.set_cons_zero, List.set_cons_succ]
      refine late_done (by kernel_rfl) ?_ _
      clear hp1 hp2 hE hF hb6 hb7 hb8 h6 h7 hpt hS hd
      have hpsl := pointZ_length z (partsZ l 0 z.g.length nb) (partsZ l z.g.length z.n.toNat nb) z.n.toNat
      generalize pointZ z (partsZ l 0 z.g.length nb) (partsZ l z.g.length z.n.toNat nb) z.n.toNat = ps at *
      have HPL := Lib.hid hpsl
      clear hpsl
      go_wp2_with fail
      go_loopw [15] (fun kk wr => ∃ i : Nat, i ≤ z.n.toNat ∧ kk = .int .i64 (i : Nat) ∧ Below w8.heap.size w8 wr) (fun kk _ => z.n.toNat - (intOf kk).toNat)
      case atStart => exact ⟨0, Nat.zero_le _, rfl, Below.refl _ _⟩
      case round =>
        obtain ⟨i, hi, rfl, hBr⟩ := hrel
        have hBW := h8.trans (hBr.mono h8.size)
        have k9 := cells5 ((hBW.block _ (Array.getElem?_eq_some_iff.1 gr).1).trans gr)
        have x0 := k9.1
        clear k9
        by_cases hlt : (i : Int) < z.n
        · obtain ⟨hyn, hyi, hyg0⟩ := HY3.out
          have hylc := hygood.lenC
          have hylr := hygood.lenR
          have hlC := hz.lenC
          rw [hyn] at hylc hylr
          obtain ⟨bq, oq, xq, rfl, hbq, q1, q2, q3, hxq⟩ := row_num hR4.c i (by omega)
          obtain ⟨bs, os, xs, rfl, hbs, s1, s2, s3, hxs⟩ := row_num hR4.r i (by omega)
          obtain ⟨bc, oc, xc, rfl, hbc, c1, c2, c3, hxc⟩ := row_num hR.c i (by omega)
          obtain ⟨pi, hpi⟩ := get_some ps i (by have := HPL.out; omega)
          obtain ⟨hnear, hpW⟩ := HPT.out i (by omega) pi hpi
          obtain ⟨bp, op, xp, rfl, hbp, p1, p2, p3, hxp⟩ := hP.row i pi hpi
          rw [hyc i] at hxq
          have hrr := hyr i (by omega)
          have hcap1 : (pi + -fz (z.c.getD i 0)).natAbs < W32 ^ 400 := hpW.1
          have hfr := fz_lt _ (getD_num y.r hygood.numR i)
          have hcap2 : (zabs (pi + -fz (z.c.getD i 0)) + -fz (y.r.getD i 0)).natAbs < W32 ^ 400 := hpW.2 _ hfr
          have hcap3 : (fz (z.c.getD i 0) + -fz (z.c.getD i 0)).natAbs < W32 ^ 400 := by rw [Int.add_right_neg]; exact W400_pos
          have hsg1 : decide (0 < (zabs (pi + -fz (z.c.getD i 0)) + -fz (y.r.getD i 0)).sign) = false := by
            rw [decide_eq_false_iff_not]
            intro h
            have := Int.sign_pos_iff.1 h
            rw [Int.sub_eq_add_neg] at hnear
            omega
          have hsg2 : (fz (z.c.getD i 0) + -fz (z.c.getD i 0)).sign = 0 := by rw [Int.add_right_neg]; rfl
          have hiq : (i : Int) < (y.c.length : Int) := by omega
          have his : (i : Int) < (y.r.length : Int) := by omega
          have hic : (i : Int) < (z.c.length : Int) := by omega
          have hip : (i : Int) < (z.n.toNat : Int) := by omega
          have hmx : (i : Int) < max z.n 0 := by omega
          clear hnear hpW hfr hpi hrr hyn hyi hyg0 hylc hylr hlC
          obtain ⟨V2, hV2⟩ : ∃ V, V = zabs (pi + -fz (z.c.getD i 0)) + -fz (y.r.getD i 0) := ⟨_, rfl⟩
          rw [← hV2] at hsg1
          have hV2n : ¬ (0 < V2.sign) := of_decide_eq_false hsg1
          have hV2o : ¬ (0 < V2) := fun h => hV2n (Int.sign_pos_iff.2 h)
          have hV2l : V2 ≤ 0 := Int.not_lt.1 hV2o
          have HV2 := Lib.hid hV2
          have HC2 := Lib.hid hcap2
          clear hV2 hcap2
          go_wp2_with fail
          clear x0
          have hS : ∀ W', Below wr.heap.size wr W' → (fun w' => (w'.cell? ⟨bp, op + i * 3, none⟩ = some (.bool xp.neg) ∧ w'.cell? ⟨bp, op + i * 3 + 1, none⟩ = some (.slice xp.A xp.n xp.cap) ∧ w'.cell? ⟨bp, op + i * 3 + 2, none⟩ = some (.int .i64 xp.E)) ∧ (w'.cell? ⟨b12, 1, none⟩ = some (.slice (some ⟨bq, oq, none⟩) y.c.length kA4) ∧ w'.cell? ⟨b12, 4, none⟩ = some (.slice (some ⟨bs, os, none⟩) y.r.length kD4)) ∧ (w'.cell? ⟨bq, oq + i * 3, none⟩ = some (.bool xq.neg) ∧ w'.cell? ⟨bq, oq + i * 3 + 1, none⟩ = some (.slice xq.A xq.n xq.cap) ∧ w'.cell? ⟨bq, oq + i * 3 + 2, none⟩ = some (.int .i64 xq.E)) ∧ (w'.cell? ⟨bs, os + i * 3, none⟩ = some (.bool xs.neg) ∧ w'.cell? ⟨bs, os + i * 3 + 1, none⟩ = some (.slice xs.A xs.n xs.cap) ∧ w'.cell? ⟨bs, os + i * 3 + 2, none⟩ = some (.int .i64 xs.E)) ∧ w'.cell? ⟨b9, 1, none⟩ = some (.slice (some ⟨bc, oc, none⟩) z.c.length kA1) ∧ (w'.cell? ⟨bc, oc + i * 3, none⟩ = some (.bool xc.neg) ∧ w'.cell? ⟨bc, oc + i * 3 + 1, none⟩ = some (.slice xc.A xc.n xc.cap) ∧ w'.cell? ⟨bc, oc + i * 3 + 2, none⟩ = some (.int .i64 xc.E))) W' := fun W' hb => by
            have hq := hBr.trans (hb.mono hBr.size)
            have hW := h8.trans (hq.mono h8.size)
            have k12 := cells5 ((hW.block _ (Array.getElem?_eq_some_iff.1 gq).1).trans gq)
            have k9 := cells5 ((hW.block _ (Array.getElem?_eq_some_iff.1 gr).1).trans gr)
            exact ⟨⟨(hq.cell (p := ⟨bp, op + i * 3, none⟩) hbp).trans p1, (hq.cell (p := ⟨bp, op + i * 3 + 1, none⟩) hbp).trans p2, (hq.cell (p := ⟨bp, op + i * 3 + 2, none⟩) hbp).trans p3⟩, ⟨k12.2.1, k12.2.2.2.2⟩, ⟨(hW.cell (p := ⟨bq, oq + i * 3, none⟩) hbq).trans q1, (hW.cell (p := ⟨bq, oq + i * 3 + 1, none⟩) hbq).trans q2, (hW.cell (p := ⟨bq, oq + i * 3 + 2, none⟩) hbq).trans q3⟩, ⟨(hW.cell (p := ⟨bs, os + i * 3, none⟩) hbs).trans s1, (hW.cell (p := ⟨bs, os + i * 3 + 1, none⟩) hbs).trans s2, (hW.cell (p := ⟨bs, os + i * 3 + 2, none⟩) hbs).trans s3⟩, k9.2.1, ⟨(hW.cell (p := ⟨bc, oc + i * 3, none⟩) hbc).trans c1, (hW.cell (p := ⟨bc, oc + i * 3 + 1, none⟩) hbc).trans c2, (hW.cell (p := ⟨bc, oc + i * 3 + 2, none⟩) hbc).trans c3⟩⟩
          have hd := (Below.refl wr.heap.size wr).drew
          have hTo := fun W' (hb : Below wr.heap.size wr W') => hBr.trans (hb.mono hBr.size)
          have hTW := fun W' (hb : Below wr.heap.size wr W') => h8.trans ((hBr.trans (hb.mono hBr.size)).mono h8.size)
          refine late_begin (fun w' => (w'.cell? ⟨bp, op + i * 3, none⟩ = some (.bool xp.neg) ∧ w'.cell? ⟨bp, op + i * 3 + 1, none⟩ = some (.slice xp.A xp.n xp.cap) ∧ w'.cell? ⟨bp, op + i * 3 + 2, none⟩ = some (.int .i64 xp.E)) ∧ (w'.cell? ⟨b12, 1, none⟩ = some (.slice (some ⟨bq, oq, none⟩) y.c.length kA4) ∧ w'.cell? ⟨b12, 4, none⟩ = some (.slice (some ⟨bs, os, none⟩) y.r.length kD4)) ∧ (w'.cell? ⟨bq, oq + i * 3, none⟩ = some (.bool xq.neg) ∧ w'.cell? ⟨bq, oq + i * 3 + 1, none⟩ = some (.slice xq.A xq.n xq.cap) ∧ w'.cell? ⟨bq, oq + i * 3 + 2, none⟩ = some (.int .i64 xq.E)) ∧ (w'.cell? ⟨bs, os + i * 3, none⟩ = some (.bool xs.neg) ∧ w'.cell? ⟨bs, os + i * 3 + 1, none⟩ = some (.slice xs.A xs.n xs.cap) ∧ w'.cell? ⟨bs, os + i * 3 + 2, none⟩ = some (.int .i64 xs.E)) ∧ w'.cell? ⟨b9, 1, none⟩ = some (.slice (some ⟨bc, oc, none⟩) z.c.length kA1) ∧ (w'.cell? ⟨bc, oc + i * 3, none⟩ = some (.bool xc.neg) ∧ w'.cell? ⟨bc, oc + i * 3 + 1, none⟩ = some (.slice xc.A xc.n xc.cap) ∧ w'.cell? ⟨bc, oc + i * 3 + 2, none⟩ = some (.int .i64 xc.E))) [] (by kernel_rfl) ?_
          refine late_take (i := 0) (v := ?_) (some 88) rfl rfl (by kernel_rfl) (by kernel_rfl) (by kernel_rfl) (by kernel_rfl) (fun _ _ _ h => h) (by kernel_rfl) (hS _ hd) ?_ ?_
          rotate_left
          · (intro w hSw; (try dsimp only at hSw); go_simp; try rfl)
          try simp only [Act.put, List.setIfInBounds_toArray, List.set_cons_zero, List.set_cons_succ]
          refine late_take (i := 1) (v := ?_) (some 89) rfl rfl (by kernel_rfl) (by kernel_rfl) (by kernel_rfl) (by kernel_rfl) (fun _ _ _ h => h) (by kernel_rfl) (hS _ hd) ?_ ?_
          rotate_left
          · (intro w hSw; (try dsimp only at hSw); go_simp; try rfl)
          try simp only [Act.put, List.setIfInBounds_toArray, List.set_cons_zero, List.set_cons_succ]
          refine late_take (i := 2) (v := ?_) (some 90) rfl rfl (by kernel_rfl) (by kernel_rfl) (by kernel_rfl) (by kernel_rfl) (fun _ _ _ h => h) (by kernel_rfl) (hS _ hd) ?_ ?_
          rotate_left
          · (intro w hSw; (try dsimp only at hSw); go_simp; try rfl)
          try simp only [Act.put, List.setIfInBounds_toArray, List.set_cons_zero, List.set_cons_succ]
          refine late_take (i := 3) (v := ?_) (some 91) rfl rfl (by kernel_rfl) (by kernel_rfl) (by kernel_rfl) (by kernel_rfl) (fun _ _ _ h => h) (by kernel_rfl) (hS _ hd) ?_ ?_
          rotate_left
          · (intro w hSw; (try dsimp only at hSw); go_simp; try rfl)
          try simp only [Act.put, List.setIfInBounds_toArray, List.set_cons_zero, List.set_cons_succ]
          refine late_take (i := 4) (v := ?_) (some 92) rfl rfl (by kernel_rfl) (by kernel_rfl) (by kernel_rfl) (by kernel_rfl) (fun _ _ _ h => h) (by kernel_rfl) (hS _ hd) ?_ ?_
          rotate_left
          · (intro w hSw; (try dsimp only at hSw); go_simp; try rfl)
          try simp only [Act.put, List.setIfInBounds_toArray, List.set_cons_zero, List.set_cons_succ]
          refine late_take (i := 5) (v := ?_) (some 93) rfl rfl (by kernel_rfl) (by kernel_rfl) (by kernel_rfl) (by kernel_rfl) (fun _ _ _ h => h) (by kernel_rfl) (hS _ hd) ?_ ?_
          rotate_left
          · (intro w hSw; (try dsimp only at hSw); go_simp; try rfl)
          try simp only [Act.put, List.setIfInBounds_toArray, List.set_cons_zero, List.set_cons_succ]
          refine late_take (i := 6) (v := ?_) (some 94) rfl rfl (by kernel_rfl) (by kernel_rfl) (by kernel_rfl) (by kernel_rfl) (fun _ _ _ h => h) (by kernel_rfl) (hS _ hd) ?_ ?_
          rotate_left
          · (intro w hSw; (try dsimp only at hSw); go_simp; try rfl)
          try simp only [Act.put, List.setIfInBounds_toArray, List.set_cons_zero, List.set_cons_succ]
          refine late_take (i := 7) (v := ?_) (some 95) rfl rfl (by kernel_rfl) (by kernel_rfl) (by kernel_rfl) (by kernel_rfl) (fun _ _ _ h => h) (by kernel_rfl) (hS _ hd) ?_ ?_
          rotate_left
          · (intro w hSw; (try dsimp only at hSw); go_simp; try rfl)
          try simp only [Act.put, List.setIfInBounds_toArray, List.set_cons_zero, List.set_cons_succ]
          refine late_take (i := 8) (v := ?_) (some 96) rfl rfl (by kernel_rfl) (by kernel_rfl) (by kernel_rfl) (by kernel_rfl) (fun _ _ _ h => h) (by kernel_rfl) (hS _ hd) ?_ ?_
          rotate_left
          · (intro w hSw; (try dsimp only at hSw); go_simp; try rfl)
          try simp only [Act.put, List.setIfInBounds_toArray, List.set_cons_zero, List.set_cons_succ]
          refine late_take (i := 11) (v := ?_) (some 99) rfl rfl (by kernel_rfl) (by kernel_rfl) (by kernel_rfl) (by kernel_rfl) (fun _ _ _ h => h) (by kernel_rfl) (hS _ hd) ?_ ?_
          rotate_left
          · (intro w hSw; (try dsimp only at hSw); go_simp; try rfl)
          try simp only [Act.put, List.setIfInBounds_toArray, List.set_cons_zero, List.set_cons_succ]
          refine late_take (i := 12) (v := ?_) (some 100) rfl rfl (by kernel_rfl) (by kernel_rfl) (by kernel_rfl) (by kernel_rfl) (fun _ _ _ h => h) (by kernel_rfl) (hS _ hd) ?_ ?_
          rotate_left
          · (intro w hSw; (try dsimp only at hSw); go_simp; try rfl)
          try simp only [Act.put, List.setIfInBounds_toArray, List.set_cons_zero, List.set_cons_succ]
          refine late_take (i := 13) (v := ?_) (some 101) rfl rfl (by kernel_rfl) (by kernel_rfl) (by kernel_rfl) (by kernel_rfl) (fun _ _ _ h => h) (by kernel_rfl) (hS _ hd) ?_ ?_
          rotate_left
          · (intro w hSw; (try dsimp only at hSw); go_simp; try rfl)
          try simp only [Act.put, List.setIfInBounds_toArray, List.set_cons_zero, List.set_cons_succ]
          refine late_take (i := 14) (v := ?_) (some 102) rfl rfl (by kernel_rfl) (by kernel_rfl) (by kernel_rfl) (by kernel_rfl) (fun _ _ _ h => h) (by kernel_rfl) (hS _ hd) ?_ ?_
          rotate_left
          · (intro w hSw; (try dsimp only at hSw); go_simp; try rfl)
          try simp only [Act.put, List.setIfInBounds_toArray, List.set_cons_zero, List.set_cons_succ]
          refine late_take (i := 15) (v := ?_) (some 103) rfl rfl (by kernel_rfl) (by kernel_rfl) (by kernel_rfl) (by kernel_rfl) (fun _ _ _ h => h) (by kernel_rfl) (hS _ hd) ?_ ?_
          rotate_left
          · (intro w hSw; (try dsimp only at hSw); go_simp; try rfl)
          try simp only [Act.put, List.setIfInBounds_toArray, List.set_cons_zero, List.set_cons_succ]
          refine late_one (i := 9) rfl (by kernel_rfl) ?_
          intro K hK
          go_simp
          refine (minus_r _ (-1090) 971 xp xq _ _ (hxp.below (hTo _ hd)) ((hxq.below (hTW _ hd)).wide (by decide) (by decide)) hcap1).mono ?_
          rintro e r1 ⟨n1, a1, m1, u1, E1, rfl, hN1, hb1⟩
          have f1 := hd.trans (hb1.mono hd.size)
          try show K _ _
          refine hK.out _ _ (Or.inr (hS _ f1)) ?_
          clear hK K
          try simp only [Act.put, List.setIfInBounds_toArray, List.set_cons_zero, List.set_cons_succ]
          refine late_one (i := 10) rfl (by kernel_rfl) ?_
          intro K hK
          go_simp
          refine (size_r _ (-2212) 5000 ⟨n1, a1, m1, u1, E1⟩ _ hN1.nv).mono ?_
          rintro e r2 ⟨x2, rfl, hx2, hb2⟩
          have f2 := f1.trans (hb2.mono f1.size)
          try show K _ _
          refine hK.out _ _ (Or.inr (hS _ f2)) ?_
          clear hK K
          try simp only [Act.put, List.setIfInBounds_toArray, List.set_cons_zero, List.set_cons_succ]
          refine late_one (i := 16) rfl (by kernel_rfl) ?_
          intro K hK
          go_simp
          have hcm := cmp_r r2 (-2212) 5000 (-1074) 971 x2 xs _ _ hx2 (hxs.below (hTW _ f2)) HC2.out
          rw [← HV2.out] at hcm
          refine hcm.mono ?_
          clear hcm
          rintro e r3 ⟨rfl, hb3⟩
          have f3 := f2.trans (hb3.mono f2.size)
          try show K _ _
          refine hK.out _ _ (Or.inr (hS _ f3)) ?_
          clear hK K
          try simp only [Act.put, List.setIfInBounds_toArray, List.set_cons_zero, List.set_cons_succ]
          refine late_take (i := 17) (v := .bool false) (some 105) rfl rfl (by kernel_rfl) (by kernel_rfl) (by kernel_rfl) (by kernel_rfl) (fun _ _ _ h => h) (by kernel_rfl) (hS _ f3) ?_ ?_
          · (intro w hSw; (try dsimp only at hSw); go_simp; try rfl)
          try simp only [Act.put, List.setIfInBounds_toArray, List.set_cons_zero, List.set_cons_succ]
          refine late_take (i := 18) (v := ?_) (some 106) rfl rfl (by kernel_rfl) (by kernel_rfl) (by kernel_rfl) (by kernel_rfl) (fun _ _ _ h => h) (by kernel_rfl) (hS _ f3) ?_ ?_
          rotate_left
          · (intro w hSw; (try dsimp only at hSw); go_simp; try rfl)
          try simp only [Act.put, List.setIfInBounds_toArray, List.set_cons_zero, List.set_cons_succ]
          refine late_take (i := 19) (v := ?_) (some 107) rfl rfl (by kernel_rfl) (by kernel_rfl) (by kernel_rfl) (by kernel_rfl) (fun _ _ _ h => h) (by kernel_rfl) (hS _ f3) ?_ ?_
          rotate_left
          · (intro w hSw; (try dsimp only at hSw); go_simp; try rfl)
          try simp only [Act.put, List.setIfInBounds_toArray, List.set_cons_zero, List.set_cons_succ]
          refine late_take (i := 20) (v := ?_) (some 108) rfl rfl (by kernel_rfl) (by kernel_rfl) (by kernel_rfl) (by kernel_rfl) (fun _ _ _ h => h) (by kernel_rfl) (hS _ f3) ?_ ?_
          rotate_left
          · (intro w hSw; (try dsimp only at hSw); go_simp; try rfl)
          try simp only [Act.put, List.setIfInBounds_toArray, List.set_cons_zero, List.set_cons_succ]
          refine late_take (i := 21) (v := ?_) (some 109) rfl rfl (by kernel_rfl) (by kernel_rfl) (by kernel_rfl) (by kernel_rfl) (fun _ _ _ h => h) (by kernel_rfl) (hS _ f3) ?_ ?_
          rotate_left
          · (intro w hSw; (try dsimp only at hSw); go_simp; try rfl)
          try simp only [Act.put, List.setIfInBounds_toArray, List.set_cons_zero, List.set_cons_succ]
          refine late_take (i := 22) (v := ?_) (some 110) rfl rfl (by kernel_rfl) (by kernel_rfl) (by kernel_rfl) (by kernel_rfl) (fun _ _ _ h => h) (by kernel_rfl) (hS _ f3) ?_ ?_
          rotate_left
          · (intro w hSw; (try dsimp only at hSw); go_simp; try rfl)
          try simp only [Act.put, List.setIfInBounds_toArray, List.set_cons_zero, List.set_cons_succ]
          refine late_take (i := 23) (v := ?_) (some 111) rfl rfl (by kernel_rfl) (by kernel_rfl) (by kernel_rfl) (by kernel_rfl) (fun _ _ _ h => h) (by kernel_rfl) (hS _ f3) ?_ ?_
          rotate_left
          · (intro w hSw; (try dsimp only at hSw); go_simp; try rfl)
          try simp only [Act.put, List.setIfInBounds_toArray, List.set_cons_zero, List.set_cons_succ]
          refine late_take (i := 24) (v := ?_) (some 112) rfl rfl (by kernel_rfl) (by kernel_rfl) (by kernel_rfl) (by kernel_rfl) (fun _ _ _ h => h) (by kernel_rfl) (hS _ f3) ?_ ?_
          rotate_left
          · (intro w hSw; (try dsimp only at hSw); go_simp; try rfl)
          try simp only [Act.put, List.setIfInBounds_toArray, List.set_cons_zero, List.set_cons_succ]
          refine late_take (i := 25) (v := ?_) (some 113) rfl rfl (by kernel_rfl) (by kernel_rfl) (by kernel_rfl) (by kernel_rfl) (fun _ _ _ h => h) (by kernel_rfl) (hS _ f3) ?_ ?_
          rotate_left
          · (intro w hSw; (try dsimp only at hSw); go_simp; try rfl)
          try simp only [Act.put, List.setIfInBounds_toArray, List.set_cons_zero, List.set_cons_succ]
          refine late_take (i := 26) (v := ?_) (some 114) rfl rfl (by kernel_rfl) (by kernel_rfl) (by kernel_rfl) (by kernel_rfl) (fun _ _ _ h => h) (by kernel_rfl) (hS _ f3) ?_ ?_
          rotate_left
          · (intro w hSw; (try dsimp only at hSw); go_simp; try rfl)
          try simp only [Act.put, List.setIfInBounds_toArray, List.set_cons_zero, List.set_cons_succ]
          refine late_take (i := 27) (v := ?_) (some 115) rfl rfl (by kernel_rfl) (by kernel_rfl) (by kernel_rfl) (by kernel_rfl) (fun _ _ _ h => h) (by kernel_rfl) (hS _ f3) ?_ ?_
          rotate_left
          · (intro w hSw; (try dsimp only at hSw); go_simp; try rfl)
          try simp only [Act.put, List.setIfInBounds_toArray, List.set_cons_zero, List.set_cons_succ]
          refine late_take (i := 28) (v := ?_) (some 116) rfl rfl (by kernel_rfl) (by kernel_rfl) (by kernel_rfl) (by kernel_rfl) (fun _ _ _ h => h) (by kernel_rfl) (hS _ f3) ?_ ?_
          rotate_left
          · (intro w hSw; (try dsimp only at hSw); go_simp; try rfl)
          try simp only [Act.put, List.setIfInBounds_toArray, List.set_cons_zero, List.set_cons_succ]
          refine late_one (i := 29) rfl (by kernel_rfl) ?_
          intro K hK
          go_simp
          have hcm := cmp_r r3 (-1074) 971 (-1074) 971 xc xq _ _ (hxc.below (hTW _ f3)) (hxq.below (hTW _ f3)) hcap3
          rw [Int.add_right_neg, Int.sign_zero] at hcm
          refine hcm.mono ?_
          clear hcm
          rintro e r4 ⟨rfl, hb4⟩
          have f4 := f3.trans (hb4.mono f3.size)
          try show K _ _
          refine hK.out _ _ (Or.inr (hS _ f4)) ?_
          clear hK K
          try simp only [Act.put, List.setIfInBounds_toArray, List.set_cons_zero, List.set_cons_succ]
          refine late_take (i := 30) (v := ?_) (some 118) rfl rfl (by kernel_rfl) (by kernel_rfl) (by kernel_rfl) (by kernel_rfl) (fun _ _ _ h => h) (by kernel_rfl) (hS _ f4) ?_ ?_
          rotate_left
          · (intro w hSw; (try dsimp only at hSw); go_simp; try rfl)
          try simp only [Act.put, List.setIfInBounds_toArray, List.set_cons_zero, List.set_cons_succ]
          refine late_take (i := 31) (v := ?_) (some 119) rfl rfl (by kernel_rfl) (by kernel_rfl) (by kernel_rfl) (by kernel_rfl) (fun _ _ _ h => h) (by kernel_rfl) (hS _ f4) ?_ ?_
          rotate_left
          · (intro w hSw; (try dsimp only at hSw); go_simp; try rfl)
          try simp only [Act.put, List.setIfInBounds_toArray, List.set_cons_zero, List.set_cons_succ]
          refine late_done (by kernel_rfl) ?_ _
          have hB9 := hTo _ f4
          clear hS hd hTo hTW f1 f2 f3 f4 hb1 hb2 hb3 hb4
          go_wp2_with fail
          go_roundw
          case rel => exact ⟨i + 1, by omega, by go_num, hB9⟩
          case measure => simp [intOf]; omega
        · have hin : i = z.n.toNat := by omega
          subst hin
          have hlt' : decide (((z.n.toNat : Nat) : Int) < z.n) = false := decide_eq_false (by omega)
          have hsu := support_any wr _ z Ad cd d ⟨A, B, C, D, kA, kB, kC, kD, rfl, hc.below (hB.trans (hBW.mono hB.size))⟩ hk (hd0.at_.row.below (Nat.le_refl _) (hB.trans (hBW.mono hB.size))) hd0.small (maxF hd0.most)
          have hsy := fun W1 (hb : Below wr.heap.size wr W1) => support_any W1 _ y Ad cd d ⟨A2, B2, C2, D2, kA2, kB2, kC2, kD2, rfl, (hy.below hBW).below hb⟩ hyk (hd0.at_.row.below (Nat.le_refl _) ((hB.trans (hBW.mono hB.size)).trans (hb.mono (hB.trans (hBW.mono hB.size)).size))) hd0.small (maxF hd0.most)
          have hord := HSU.out
          generalize supD z d = sz at *
          generalize supD y d = sy at *
          obtain ⟨su, so⟩ := sz
          obtain ⟨tu, tk⟩ := sy
          unfold zval at hsu hsy
          rw [hyb] at hsy
          dsimp only at hsu hsy hord
          have g0r := g0.below hBW
          have gyr := gy.below hBW
          obtain ⟨z0, z1, z2, z3, z4, z5⟩ := cells6 g0r
          have hBfin := hB.trans (hBW.mono hB.size)
          clear HSU
          go_wp2_with fail
          refine hsu.mono ?_
          rintro e r1 ⟨rfl, hb1⟩
          replace gyr := gyr.below hb1
          have hsy' := hsy _ hb1
          replace hBfin := hBfin.trans (hb1.mono hBfin.size)
          clear z0 z1 z2 z3 z4 z5 hsu hsy x0
          obtain ⟨y0, y1, y2, y3, y4, y5⟩ := cells6 gyr
          go_wp2_with fail
          refine hsy'.mono ?_
          rintro e r2 ⟨rfl, hb2⟩
          replace hBfin := hBfin.trans (hb2.mono hBfin.size)
          clear y0 y1 y2 y3 y4 y5 hsy'
          have fin : ∀ (W9 : World), Below w.heap.size w W9 → Below w.heap.size w W9 := fun _ h => h
          cases so with
          | false =>
            go_wp2_with fail
            refine (started_any _).mono ?_
            rintro e r3 ⟨rfl, hb3⟩
            go_wp2_with fail
            go_ret
            exact ⟨rfl, hBfin.trans (hb3.mono hBfin.size)⟩
          | true =>
            cases tk with
            | false =>
              go_wp2_with fail
              refine (started_any _).mono ?_
              rintro e r3 ⟨rfl, hb3⟩
              go_wp2_with fail
              go_ret
              exact ⟨rfl, hBfin.trans (hb3.mono hBfin.size)⟩
            | true =>
              rcases hord rfl rfl with ho | ho
              · clear hord
                go_wp2_with fail
                refine (started_any _).mono ?_
                rintro e r3 ⟨rfl, hb3⟩
                go_wp2_with fail
                go_ret
                exact ⟨rfl, hBfin.trans (hb3.mono hBfin.size)⟩
              · clear hord
                go_wp2_with fail
                refine (started_any _).mono ?_
                rintro e r3 ⟨rfl, hb3⟩
                go_wp2_with fail
                go_ret
                exact ⟨rfl, hBfin.trans (hb3.mono hBfin.size)⟩
end Go.Proofs.YtpfbgenefjhcjaaGreatDoor
