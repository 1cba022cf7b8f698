/-
  The supports of the axes are the bounds: the plain law.
  law10.ZonoBounds.
-/
import Derived.Test.YtpfbgenefjhcjaaGreatDoorPZoSup
import Derived.Test.YtpfbgenefjhcjaaGreatDoorPZoOwns
import Derived.Test.YtpfbgenefjhcjaaGreatDoorPRounds
import Derived.Test.YtpfbgenefjhcjaaGreatDoorPZoStart
import Derived.Test.YtpfbgenefjhcjaaGreatDoorPZoReal2
import Derived.Test.YtpfbgenefjhcjaaGreatDoorPZoFrame
namespace Go.Proofs.YtpfbgenefjhcjaaGreatDoor
set_option linter.unusedVariables false
set_option linter.unusedSimpArgs false
open Go Go.RowKit
set_option maxRecDepth 100000
def ONEf : Nat := 4607182418800017408
def MINf : Nat := 13830554455654793216
theorem UNp : (0 : Int) < (UN : Int) := by have := Nat.two_pow_pos expU; unfold UN; omega
theorem sumTo_none (f : Nat → Int) : ∀ n, (∀ j, j < n → f j = 0) → sumTo f n = 0
  | 0, _ => rfl
  | n + 1, h => by
    show sumTo f n + f n = 0
    rw [sumTo_none f n (fun j hj => h j (by omega)), h n (by omega)]
    rfl
theorem sumTo_one (f : Nat → Int) (i : Nat) : ∀ n, i < n → (∀ j, j < n → j ≠ i → f j = 0) → sumTo f n = f i
  | 0, hi, _ => by omega
  | n + 1, hi, h => by
    show sumTo f n + f n = f i
    by_cases e : i = n
    · subst e
      rw [sumTo_none f i (fun j hj => h j (by omega) (by omega)), Int.zero_add]
    · rw [sumTo_one f i n (by omega) (fun j hj hne => h j (by omega) hne), h n (by omega) (fun e' => e e'.symm), Int.add_zero]
theorem unitL_at (n i u : Nat) (hi : i < n) : (unitL n i u).getD i 0 = u := by
  unfold unitL
  rw [List.getD_eq_getElem?_getD, List.getElem?_set, if_pos rfl, if_pos (by rw [List.length_replicate]; exact hi)]
  rfl
theorem unitL_off (n i j u : Nat) (hne : j ≠ i) : (unitL n i u).getD j 0 = 0 := by
  unfold unitL
  rw [List.getD_eq_getElem?_getD, List.getElem?_set, if_neg (fun e => hne e.symm)]
  rcases Nat.lt_or_ge j n with h | h
  · rw [List.getElem?_eq_getElem (by rw [List.length_replicate]; exact h), List.getElem_replicate]; rfl
  · rw [List.getElem?_eq_none (by rw [List.length_replicate]; exact h)]; rfl
theorem unitL_length (n i u : Nat) : (unitL n i u).length = n := by unfold unitL; rw [List.length_set, List.length_replicate]
theorem unitL_mem {n i u v : Nat} (h : v ∈ unitL n i u) : v = 0 ∨ v = u := by
  unfold unitL at h
  rcases List.mem_or_eq_of_mem_set h with h | h
  · exact Or.inl (List.eq_of_mem_replicate h)
  · exact Or.inr h
theorem prodZ_zero (v : Nat) : prodZ 0 v 0 = 0 := by
  have h := prodZ_fz 0 v
  rw [fz_zero, Int.zero_mul] at h
  rcases Int.mul_eq_zero.1 h with h | h
  · exact h
  · have := UNp
    omega
theorem prodZ_unit {u : Nat} {s : Int} (hu : fz u = s * (UN : Nat)) (v : Nat) : prodZ u v 0 = s * fz v := by
  have h := prodZ_fz u v
  rw [hu, Int.mul_assoc, Int.mul_comm (UN : Int), ← Int.mul_assoc] at h
  exact Int.eq_of_mul_eq_mul_right (Int.ne_of_gt UNp) h
theorem dotZ_unit (l : List Nat) (n i u : Nat) (hi : i < n) : dotZ (unitL n i u) l n = prodZ u (l.getD i 0) 0 := by
  unfold dotZ
  rw [sumTo_one _ i n hi (fun j _ hne => by rw [unitL_off n i j u hne, prodZ_zero]), unitL_at n i u hi]
theorem fz_ONEf : fz ONEf = 1 * ((UN : Nat) : Int) := by decide +kernel
theorem fz_MINf : fz MINf = (-1) * ((UN : Nat) : Int) := by decide +kernel
theorem absF_ONEf : absF ONEf = ONEf := by decide +kernel
theorem absF_MINf : absF MINf = ONEf := by decide +kernel
theorem absF_0 : absF 0 = 0 := by decide +kernel
theorem zabs_neg (x : Int) : zabs (-1 * x) = zabs x := by unfold zabs; congr 1; omega
theorem sup_axis {z : ZD} (hz : Good z) (i N u : Nat) (s : Int) (hN : z.n = (N : Int)) (hi : i < N) (hu : fz u = s * (UN : Nat)) (hs : s = 1 ∨ s = -1) (hab : absF u = ONEf) : supZ z (unitL N i u) = s * fz (z.c.getD i 0) + reachZ z i := by
  unfold supZ reachZ
  rw [hN, Int.toNat_natCast, dotZ_unit _ _ _ _ hi, prodZ_unit hu]
  have h2 : sumTo (fun k => zabs (dotZ (unitL N i u) (colZ z k) N)) z.g.length = sumTo (fun k => zabs (fz ((colZ z k).getD i 0))) z.g.length := sumTo_congr _ _ _ fun k _ => by
    rw [dotZ_unit _ _ _ _ hi, prodZ_unit hu]
    rcases hs with rfl | rfl
    · rw [Int.one_mul]
    · exact zabs_neg _
  have h3 : sumTo (fun j => prodZ (absF ((unitL N i u).getD j 0)) (z.r.getD j 0) 0) N = fz (z.r.getD i 0) := by
    rw [sumTo_one _ i N hi (fun j _ hne => by rw [unitL_off N i j u hne, absF_0, prodZ_zero]), unitL_at N i u hi, hab, prodZ_unit fz_ONEf, Int.one_mul]
  rw [h2, h3]
  omega
theorem rowD_unit (N i u : Nat) (hu : fexp u ≠ 2047) : rowD (unitL N i u) (N : Int) = true := by
  rw [rowD_iff]
  refine ⟨fun v hv => ?_, by rw [unitL_length]⟩
  rcases unitL_mem hv with rfl | rfl
  · decide
  · exact hu
theorem small_unit (N i u : Nat) (hu : u < B64) : Small (unitL N i u) := fun v hv => by
  rcases unitL_mem hv with rfl | rfl
  · decide
  · exact hu
theorem supD_axis {z : ZD} (hz : Good z) (i N u : Nat) (s : Int) (hN : z.n = (N : Int)) (hi : i < N) (hu : fz u = s * (UN : Nat)) (hs : s = 1 ∨ s = -1) (hab : absF u = ONEf) (he : fexp u ≠ 2047) : supD z (unitL N i u) = roundS 1 (some (s * fz (z.c.getD i 0) + reachZ z i)) := by
  unfold supD
  rw [(goodD_iff z).2 hz, hN, rowD_unit N i u he, ← sup_axis hz i N u s hN hi hu hs hab]
  rfl
theorem Turned.num {a b : Nat} (h : Turned a b) : fexp a ≠ 2047 ∧ fexp b ≠ 2047 := by
  rcases h with ⟨rfl, rfl⟩ | ⟨m, h0, h1, ⟨rfl, rfl⟩ | ⟨rfl, rfl⟩⟩
  · exact ⟨by decide, by decide⟩
  · exact ⟨by unfold fexp; omega, by unfold fexp; omega⟩
  · exact ⟨by unfold fexp; omega, by unfold fexp; omega⟩
theorem Turned.symm {a b : Nat} (h : Turned a b) : Turned b a := by
  rcases h with ⟨rfl, rfl⟩ | ⟨m, h0, h1, h | h⟩
  · exact Or.inl ⟨rfl, rfl⟩
  · exact Or.inr ⟨m, h0, h1, Or.inr ⟨h.2, h.1⟩⟩
  · exact Or.inr ⟨m, h0, h1, Or.inl ⟨h.2, h.1⟩⟩
/-- What a coordinate's span is, of the supports of its axis. -/
def AxisIs (b : SD) (p q : Nat × Bool) : Prop := (b.bad = true ∧ (p.2 && q.2) = false) ∨ (b.bad = false ∧ p.2 = true ∧ q.2 = true ∧ FloatKind.f64.format.order b.hi p.1 = some .eq ∧ FloatKind.f64.format.order b.lo (Op.negFloat .f64 q.1) = some .eq)
theorem axis_bnd {z : ZD} (hz : Good z) (i N : Nat) (hN : z.n = (N : Int)) (hi : i < N) : AxisIs (bndD z i) (supD z (unitL N i ONEf)) (supD z (unitL N i MINf)) := by
  rw [supD_axis hz i N ONEf 1 hN hi fz_ONEf (Or.inl rfl) absF_ONEf (by decide +kernel), supD_axis hz i N MINf (-1) hN hi fz_MINf (Or.inr rfl) absF_MINf (by decide +kernel), Int.one_mul]
  unfold bndD
  generalize fz (z.c.getD i 0) = c
  generalize reachZ z i = s
  obtain ⟨h1, h2⟩ := round_turned (some (-1 * c + s))
  have e : (some (-1 * c + s)).map (fun x => -x) = some (c - s) := by show some (-(-1 * c + s)) = _; congr 1; omega
  rw [e] at h1 h2
  obtain ⟨h3, _, _⟩ := turned_eq _ _ h2.symm
  have h4 := (round_turned (some (c + s))).2.num.1
  unfold AxisIs spanD
  generalize roundS 2 (some (c - s)) = L at *
  generalize roundS 1 (some (c + s)) = U at *
  generalize roundS 1 (some (-1 * c + s)) = V at *
  rw [h1]
  cases hL : L.2 with
  | false => left; simp
  | true =>
    cases hU : U.2 with
    | false => left; simp
    | true =>
      have h5 : FloatKind.f64.format.order L.1 (nf V.1) = some .eq := by simpa using h3
      right
      exact ⟨rfl, rfl, rfl, order_same _ h4, h5⟩
end Go.Proofs.YtpfbgenefjhcjaaGreatDoor
namespace Go.Proofs.YtpfbgenefjhcjaaGreatDoor
set_option linter.unusedVariables false
set_option linter.unusedSimpArgs false
open Go Go.RowKit
set_option maxRecDepth 100000
attribute [local go_sem] run_store_flt
set_option maxHeartbeats 8000000 in
theorem bounds_law (w : World) (v : Value) (z : ZD) (h : ZIn w v z) : Calls Tryz.prog 7 #[v] w fun e w' => e = .returned (.bool true) ∧ Below w.heap.size w w' := by
  obtain ⟨A, B, C, D, kA, kB, kC, kD, rfl, hc, hk, hgn⟩ := h
  have hb1 := below_alloc w (.cells #[.int .i64 z.n, .slice A z.c.length kA, .slice B z.ids.length kB, .slice C z.g.length kC, .slice D z.r.length kD, .bool z.bad] 26)
  have hx := heap_alloc_new w (.cells #[.int .i64 z.n, .slice A z.c.length kA, .slice B z.ids.length kB, .slice C z.g.length kC, .slice D z.r.length kD, .bool z.bad] 26)
  have hof := Of10_any _ _ z ⟨A, B, C, D, kA, kB, kC, kD, rfl, hc.below hb1⟩ hk
  obtain ⟨x0, x1, x2, x3, x4, x5⟩ := cells6 hx
  unfold zval at hof ⊢
  go_enter Tryz.func7, Tryz.ntmps7
  go_wp2_with fail
  refine hof.mono ?_
  rintro e w1 ⟨v1, rfl, hu1, hb⟩
  have hre := Reals_any w1 v1 z hu1 hk
  have hlw := (Array.getElem?_eq_some_iff.1 hx).1
  have g0 := (hb.block _ hlw).trans hx
  have hb2 := hb1.trans (hb.mono hb1.size)
  clear x0 x1 x2 x3 x4 x5 hof hx hb hb1 hgn
  go_wp2_with fail
  refine hre.mono ?_
  rintro e w2 (⟨hg, v2, rfl, hr, hb⟩ | ⟨hg, rfl, hb⟩)
  · have hz := (goodD_iff z).1 hg
    obtain ⟨A1, B1, C1, D1, kA1, kB1, kC1, kD1, rfl, hr⟩ := hr
    have hn1 := hz.n1
    have hn2 := hz.n2
    obtain ⟨N, hN⟩ : ∃ N : Nat, z.n = (N : Int) := ⟨z.n.toNat, by omega⟩
    have HN := Lib.hid hN
    have hN256 : N ≤ 256 := by omega
    have HB := Lib.hid (show bndsD z = bndL z N by unfold bndsD bndL; rw [if_pos hg, hN]; rfl)
    have g1 := (hb.block _ (Array.getElem?_eq_some_iff.1 g0).1).trans g0
    have hb3 := hb2.trans (hb.mono hb2.size)
    have hbr := below_alloc w2 (.cells #[.int .i64 (N : Nat), .slice A1 z.c.length kA1, .slice B1 z.ids.length kB1, .slice C1 z.g.length kC1, .slice D1 z.r.length kD1] 61)
    have gr := heap_alloc_new w2 (.cells #[.int .i64 (N : Nat), .slice A1 z.c.length kA1, .slice B1 z.ids.length kB1, .slice C1 z.g.length kC1, .slice D1 z.r.length kD1] 61)
    have g2 := (hbr.block _ (Array.getElem?_eq_some_iff.1 g1).1).trans g1
    have hb4 := hb3.trans (hbr.mono hb3.size)
    unfold rval
    rw [hN] at g2 ⊢
    clear hb hre hg g0 g1 hb2 hb3 hbr hN hr hlw
    go_upto_region 2 with fail
    generalize w2.alloc (.cells #[.int .i64 (N : Nat), .slice A1 z.c.length kA1, .slice B1 z.ids.length kB1, .slice C1 z.g.length kC1, .slice D1 z.r.length kD1] 61) = W at *
    obtain ⟨br, hbr⟩ : ∃ b, w2.heap.size = b := ⟨_, rfl⟩
    rw [hbr] at gr ⊢
    clear hbr
    have hbd := bounds_any W _ z ⟨A, B, C, D, kA, kB, kC, kD, rfl, hc.below hb4⟩ hk
    unfold zval at hbd
    rw [HN.out, HB.out] at hbd
    obtain ⟨x0, x1, x2, x3, x4, x5⟩ := cells6 g2
    go_wp2_with fail
    refine hbd.mono ?_
    rintro e w3 ⟨As, cs, rfl, hS, hs1, hs2, hb⟩
    have g3 := (hb.block _ (Array.getElem?_eq_some_iff.1 g2).1).trans g2
    have gr3 := (hb.block _ (Array.getElem?_eq_some_iff.1 gr).1).trans gr
    have hb5 := hb4.trans (hb.mono hb4.size)
    clear x0 x1 x2 x3 x4 x5 hbd hb g2 gr hb4
    rw [bndL_length] at hs1 ⊢
    obtain ⟨y0, y1, y2, y3, y4⟩ := cells5 gr3
    clear y1 y2 y3 y4
    go_wp2_with fail
    go_loopw [6] (fun kk wr => ∃ i : Nat, i ≤ N ∧ kk = .int .i64 (i : Nat) ∧ Below w3.heap.size w3 wr) (fun kk _ => N - (intOf kk).toNat)
    case atStart => exact ⟨0, Nat.zero_le _, rfl, Below.refl _ _⟩
    case round =>
      obtain ⟨i, hil, rfl, hB⟩ := hrel
      have gr4 := (hB.block _ (Array.getElem?_eq_some_iff.1 gr3).1).trans gr3
      have g4 := (hB.block _ (Array.getElem?_eq_some_iff.1 g3).1).trans g3
      have hB5 := hb5.trans (hB.mono hb5.size)
      obtain ⟨z0, z1, z2, z3, z4⟩ := cells5 gr4
      clear y0 z1 z2 z3 z4
      by_cases hlt : i < N
      · have hlt' : (i : Int) < (N : Int) := by omega
        by_cases h12 : i < 12
        · have h12' : (i : Int) < 12 := by omega
          have hmk := make_fltsZ (N : Int) (by omega) (by omega) wr
          rw [Int.toNat_natCast] at hmk
          have hR := FlB.made wr N
          have hbm := below_alloc wr (.cells (madeCells #[.float .f64 0] N) 43)
          have hax := axis_bnd hz i N HN.out hlt
          go_upto_region 11 with fail
          clear hmk z0
          have hsm := World.size_alloc wr (.cells (madeCells #[.float .f64 0] N) 43)
          generalize wr.alloc (.cells (madeCells #[.float .f64 0] N) 43) = W1 at *
          obtain ⟨⟨cv, hc0⟩, hcf⟩ := FlB.at hR hlt
          obtain ⟨hR2, hg2⟩ := hR.put (by rw [List.length_replicate]) hlt ONEf
          have hb2 : Below wr.heap.size wr (W1.setCell ⟨wr.heap.size, i, none⟩ (.float .f64 ONEf)) := hbm.trans (below_row hg2 (Nat.le_refl _) hbm.size)
          go_upto_region 12 with fail
          clear hc0 hcf hR hbm hg2 hsm
          change FlB (W1.setCell ⟨wr.heap.size, i, none⟩ (.float .f64 4607182418800017408)) wr.heap.size N (unitL N i ONEf) at hR2
          change Below wr.heap.size wr (W1.setCell ⟨wr.heap.size, i, none⟩ (.float .f64 4607182418800017408)) at hb2
          generalize W1.setCell ⟨wr.heap.size, i, none⟩ (.float .f64 4607182418800017408) = W2 at *
          obtain ⟨gd, hgd⟩ : ∃ b, wr.heap.size = b := ⟨_, rfl⟩
          have hgl : wr.heap.size ≤ gd := by omega
          rw [hgd] at hR2 ⊢
          clear hgd
          have g5 := (hb2.block _ (Array.getElem?_eq_some_iff.1 g4).1).trans g4
          have hB6 := hB5.trans (hb2.mono hB5.size)
          have hsu := support_any W2 _ z (some ⟨gd, 0, none⟩) N (unitL N i ONEf) ⟨A, B, C, D, kA, kB, kC, kD, rfl, hc.below hB6⟩ hk hR2.row (small_unit N i ONEf (by decide)) (by rw [unitL_length]; unfold maxLen; omega)
          unfold zval at hsu
          rw [HN.out, unitL_length] at hsu
          obtain ⟨x0, x1, x2, x3, x4, x5⟩ := cells6 g5
          generalize hpp : supD z (unitL N i ONEf) = pp at *
          clear hpp
          go_wp2_with fail
          refine hsu.mono ?_
          rintro e w5 ⟨rfl, hb⟩
          have hR5 := hR2.below hb
          have g6 := (hb.block _ (Array.getElem?_eq_some_iff.1 g5).1).trans g5
          have hb7 := hb2.trans (hb.mono hb2.size)
          have hB7 := hB6.trans (hb.mono hB6.size)
          clear x0 x1 x2 x3 x4 x5 hsu hb g5 hB6 hR2
          obtain ⟨⟨cv, hc0⟩, hcf⟩ := FlB.at hR5 hlt
          obtain ⟨hR8, hg8⟩ := hR5.put (unitL_length N i ONEf) hlt MINf
          have hb8 : Below wr.heap.size wr (w5.setCell ⟨gd, i, none⟩ (.float .f64 MINf)) := hb7.trans (below_row hg8 hgl hb7.size)
          have g8 := (hg8.block w.heap.size (Array.getElem?_eq_some_iff.1 g6).1 (fun e => by cases e; have := (Array.getElem?_eq_some_iff.1 g4).1; omega)).trans g6
          have hB8 := hB7.trans (below_row hg8 (by have := hB5.size; omega) hB7.size)
          rw [show (unitL N i ONEf).set i MINf = unitL N i MINf by unfold unitL; rw [List.set_set]] at hR8
          go_upto_region 14 with fail
          clear hc0 hcf hR5 hg8 hB7 g6
          change FlB (w5.setCell ⟨gd, i, none⟩ (.float .f64 13830554455654793216)) gd N (unitL N i MINf) at hR8
          change Below wr.heap.size wr (w5.setCell ⟨gd, i, none⟩ (.float .f64 13830554455654793216)) at hb8
          change Below w.heap.size w (w5.setCell ⟨gd, i, none⟩ (.float .f64 13830554455654793216)) at hB8
          change (w5.setCell ⟨gd, i, none⟩ (.float .f64 13830554455654793216)).heap[w.heap.size]? = _ at g8
          generalize w5.setCell ⟨gd, i, none⟩ (.float .f64 13830554455654793216) = W8 at *
          have hsv := support_any W8 _ z (some ⟨gd, 0, none⟩) N (unitL N i MINf) ⟨A, B, C, D, kA, kB, kC, kD, rfl, hc.below hB8⟩ hk hR8.row (small_unit N i MINf (by decide)) (by rw [unitL_length]; unfold maxLen; omega)
          unfold zval at hsv
          rw [HN.out, unitL_length] at hsv
          obtain ⟨x0, x1, x2, x3, x4, x5⟩ := cells6 g8
          generalize hqq : supD z (unitL N i MINf) = qq at *
          clear hqq
          go_wp2_with fail
          refine hsv.mono ?_
          rintro e w9 ⟨rfl, hb⟩
          have hb9 := hb8.trans (hb.mono hb8.size)
          have hBn := hB.trans (hb9.mono hB.size)
          obtain ⟨gs, rfl, hgs, c0, c1, c2⟩ := (hS.below hBn) i (bndD z i) (by unfold bndL; rw [List.getElem?_map, List.getElem?_range hlt]; rfl)
          clear x0 x1 x2 x3 x4 x5 hsv hb g8 hB8 hR8 hb2 hb7 hb8
          generalize bndD z i = b at *
          obtain ⟨pu, po⟩ := pp
          obtain ⟨qu, qo⟩ := qq
          obtain ⟨lo, hi', bad⟩ := b
          dsimp only at c0 c1 c2 ⊢
          rcases hax with ⟨h1, h2⟩ | ⟨h1, h2, h3, h4, h5⟩
          · dsimp only at h1 h2
            subst h1
            cases po with
            | false =>
              clear h2
              go_wp2_with fail
              go_roundw
              case rel => exact ⟨i + 1, by omega, by go_num, hBn⟩
              case measure => simp [intOf]; omega
            | true =>
              rw [Bool.true_and] at h2
              subst h2
              go_wp2_with fail
              go_roundw
              case rel => exact ⟨i + 1, by omega, by go_num, hBn⟩
              case measure => simp [intOf]; omega
          · dsimp only at h1 h2 h3 h4 h5
            subst h1 h2 h3
            have hun := run_neg_float qu
            change FloatKind.f64.format.order lo (nf qu) = some .eq at h5
            go_wp2_with fail
            go_roundw
            case rel => exact ⟨i + 1, by omega, by go_num, hBn⟩
            case measure => simp [intOf]; omega
        · have h12' : decide ((i : Int) < 12) = false := decide_eq_false (by omega)
          go_wp2_with fail
          refine (started_any _).mono ?_
          rintro e ws ⟨rfl, hbs⟩
          go_wp2_with fail
          go_ret
          exact ⟨rfl, hB5.trans (hbs.mono hB5.size)⟩
      · have hlt' : decide ((i : Int) < (N : Int)) = false := decide_eq_false (by omega)
        go_wp2_with fail
        refine (started_any _).mono ?_
        rintro e ws ⟨rfl, hbs⟩
        go_wp2_with fail
        go_ret
        exact ⟨rfl, hB5.trans (hbs.mono hB5.size)⟩
  · have hb3 := hb2.trans (hb.mono hb2.size)
    have g1 := (hb.block _ (Array.getElem?_eq_some_iff.1 g0).1).trans g0
    have hbr := below_alloc w2 (.cells #[.int .i64 0, .slice none 0 0, .slice none 0 0, .slice none 0 0, .slice none 0 0] 61)
    have g2 := (hbr.block _ (Array.getElem?_eq_some_iff.1 g1).1).trans g1
    have hb4 := hb3.trans (hbr.mono hb3.size)
    have HB := Lib.hid (show bndsD z = [] by unfold bndsD; rw [if_neg (by rw [hg]; decide)])
    unfold noReal
    clear hb hre hg g0 g1 hb2 hb3 hbr hlw
    go_upto_region 2 with fail
    generalize w2.alloc (.cells #[.int .i64 0, .slice none 0 0, .slice none 0 0, .slice none 0 0, .slice none 0 0] 61) = W at *
    have hbd := bounds_any W _ z ⟨A, B, C, D, kA, kB, kC, kD, rfl, hc.below hb4⟩ hk
    unfold zval at hbd
    rw [HB.out] at hbd
    obtain ⟨x0, x1, x2, x3, x4, x5⟩ := cells6 g2
    go_wp2_with fail
    refine hbd.mono ?_
    rintro e w3 ⟨As, cs, rfl, hS, hs1, hs2, hb⟩
    have hb5 := hb4.trans (hb.mono hb4.size)
    clear x0 x1 x2 x3 x4 x5 hbd hb g2 hS hs1 hs2
    go_wp2_with fail
    refine (started_any _).mono ?_
    rintro e ws ⟨rfl, hbs⟩
    go_wp2_with fail
    go_ret
    exact ⟨rfl, hb5.trans (hbs.mono hb5.size)⟩
end Go.Proofs.YtpfbgenefjhcjaaGreatDoor
