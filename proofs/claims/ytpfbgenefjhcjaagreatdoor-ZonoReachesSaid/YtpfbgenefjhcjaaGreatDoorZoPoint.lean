/- law10.Point. -/
import Derived.Test.YtpfbgenefjhcjaaGreatDoorZoProd
namespace Go.Proofs.YtpfbgenefjhcjaaGreatDoor
set_option linter.unusedVariables false
set_option linter.unusedSimpArgs false
open Go Go.RowKit
set_option maxRecDepth 100000
/-- A coordinate of the point at values of the Ids and of the boxes, its first K columns. -/
def ptT (z : ZD) (es rs : List Int) (i K : Nat) : Int := fz (z.c.getD i 0) + mulZ (rs.getD i 0) (fz (z.r.getD i 0)) + sumTo (fun k => mulZ (es.getD k 0) (fz ((colZ z k).getD i 0))) K
def ptZ (z : ZD) (es rs : List Int) (i : Nat) : Int := ptT z es rs i z.g.length
def pointZ (z : ZD) (es rs : List Int) (n : Nat) : List Int := (List.range n).map (ptZ z es rs)
theorem pointZ_succ (z : ZD) (es rs : List Int) (n : Nat) : pointZ z es rs (n + 1) = pointZ z es rs n ++ [ptZ z es rs n] := by
  unfold pointZ
  rw [List.range_succ, List.map_append]
  rfl
theorem pointZ_length (z : ZD) (es rs : List Int) (n : Nat) : (pointZ z es rs n).length = n := by
  unfold pointZ
  rw [List.length_map, List.length_range]
/-- All from -1 to 1. -/
def Unit1 (es : List Int) : Prop := ∀ k, (es.getD k 0).natAbs ≤ UN
theorem mulZ_le {x y : Int} (h : x.natAbs ≤ UN) : (mulZ x y).natAbs ≤ y.natAbs := by
  unfold mulZ
  have hu := UN_pos
  have h1 : (x * y).natAbs ≤ UN * y.natAbs := by
    rw [Int.natAbs_mul]
    exact Nat.mul_le_mul_right _ h
  generalize x * y = p at *
  generalize UN = U at *
  have h2 : -((U : Int) * (y.natAbs : Int)) ≤ p ∧ p ≤ (U : Int) * (y.natAbs : Int) := by
    rw [← Int.natCast_mul]
    omega
  have h3 : p / (U : Int) ≤ (y.natAbs : Int) := by
    have := Int.ediv_le_ediv hu h2.2
    rw [Int.mul_ediv_cancel_left _ (by omega)] at this
    exact this
  have h4 : -(y.natAbs : Int) ≤ p / (U : Int) := by
    have := Int.ediv_le_ediv hu h2.1
    rw [← Int.mul_neg, Int.mul_ediv_cancel_left _ (by omega)] at this
    exact this
  omega
theorem unit_W {es : List Int} (h : Unit1 es) (k : Nat) : (es.getD k 0).natAbs < W32 ^ 200 := by
  refine Nat.lt_of_le_of_lt (h k) ?_
  obtain ⟨b, hb⟩ : ∃ b, b = 200 := ⟨200, rfl⟩
  rw [← hb, W32_two]
  unfold UN
  exact Nat.pow_lt_pow_right (by decide) (by unfold expU; omega)
theorem pt_bound {z : ZD} (hz : Good z) {es rs : List Int} (he : Unit1 es) (hr : Unit1 rs) (i K : Nat) : (ptT z es rs i K).natAbs ≤ (2 + K) * FB := by
  have h1 := fz_lt _ (getD_num z.c hz.numC i)
  have h2 := fz_lt _ (getD_num z.r hz.numR i)
  have h3 := mulZ_le (x := rs.getD i 0) (y := fz (z.r.getD i 0)) (hr i)
  have h4 := sumTo_bound (fun k => mulZ (es.getD k 0) (fz ((colZ z k).getD i 0))) FB K fun k _ => Nat.le_trans (mulZ_le (he k)) (Nat.le_of_lt (fz_lt _ (getD_num _ (hz.colNum k) i)))
  have h5 : (2 + K) * FB = FB + FB + K * FB := by rw [Nat.add_mul]; omega
  unfold ptT
  omega
theorem pt_W {z : ZD} (hz : Good z) {es rs : List Int} (he : Unit1 es) (hr : Unit1 rs) (i K : Nat) (hK : K ≤ z.g.length) : (ptT z es rs i K).natAbs < W32 ^ 400 := by
  have h1 := hz.cols
  exact few_W _ (2 + K) (by omega) (Nat.le_trans (pt_bound hz he hr i K) (Nat.mul_le_mul_left _ FB_le_PB))
theorem ptT_succ (z : ZD) (es rs : List Int) (i K : Nat) : ptT z es rs i (K + 1) = ptT z es rs i K + mulZ (es.getD K 0) (fz ((colZ z K).getD i 0)) := by
  unfold ptT
  exact (Int.add_assoc _ _ _).symm
set_option maxHeartbeats 16000000 in
theorem Point_any (w : World) (A B C D Ae Ar : Option Addr) (kA kB kC kD ke kr ne nr : Nat) (z : ZD) (es rs : List Int) (h : RealC w z A B C D kA kB kC kD) (hz : Good z) (he : NLt (-16) 0 w Ae ke es) (hr : NLt (-16) 0 w Ar kr rs) (hen : es.length = ne) (hrn : rs.length = nr) (hel : z.g.length ≤ ne) (hrl : z.n ≤ (nr : Int)) (hue : Unit1 es) (hur : Unit1 rs) (hem : ne ≤ 4294967296) (hrm : nr ≤ 4294967296) :
    Calls Tryz.prog 35 #[rval z A B C D kA kB kC kD, .slice Ae ne ke, .slice Ar nr kr] w fun e w' => ∃ A' cap', e = .returned (.slice A' z.n.toNat cap') ∧ NLt (-1090) 971 w' A' cap' (pointZ z es rs z.n.toNat) ∧ Below w.heap.size w w' := by
  have hN1 := hz.n1
  have hN2 := hz.n2
  have hlC := hz.lenC
  have hlR := hz.lenR
  have hcols := hz.cols
  have hb0 := below_alloc w (.cells #[.int .i64 z.n, .slice A z.c.length kA, .slice B z.ids.length kB, .slice C z.g.length kC, .slice D z.r.length kD] 61)
  have hx := heap_alloc_new w (.cells #[.int .i64 z.n, .slice A z.c.length kA, .slice B z.ids.length kB, .slice C z.g.length kC, .slice D z.r.length kD] 61)
  have hq : ∀ W', Below (w.alloc (.cells #[.int .i64 z.n, .slice A z.c.length kA, .slice B z.ids.length kB, .slice C z.g.length kC, .slice D z.r.length kD] 61)).heap.size (w.alloc (.cells #[.int .i64 z.n, .slice A z.c.length kA, .slice B z.ids.length kB, .slice C z.g.length kC, .slice D z.r.length kD] 61)) W' → W'.heap[w.heap.size]? = some (.cells #[.int .i64 z.n, .slice A z.c.length kA, .slice B z.ids.length kB, .slice C z.g.length kC, .slice D z.r.length kD] 61 (0, 0)) := fun W' hb => (hb.block _ (Array.getElem?_eq_some_iff.1 hx).1).trans hx
  have h0 := h.below hb0
  have he0 := he.below hb0
  have hr0 := hr.below hb0
  unfold rval
  go_enter Tryz.func35, Tryz.ntmps35
  go_upto_region 2 with fail
  generalize w.alloc (.cells #[.int .i64 z.n, .slice A z.c.length kA, .slice B z.ids.length kB, .slice C z.g.length kC, .slice D z.r.length kD] 61) = W0 at *
  clear h he hr hx
  go_wp2_with fail
  go_loopw [7, 8] (fun v kk wr => ∃ (i : Nat) (ns : List NV), i ≤ z.n.toNat ∧ kk = .int .i64 (i : Nat) ∧ NAcc (-1090) 971 W0.heap.size wr v ns (pointZ z es rs i) ∧ Below W0.heap.size W0 wr) (fun _ kk _ => z.n.toNat - (intOf kk).toNat)
  case atStart => exact ⟨0, _, Nat.zero_le _, rfl, NAcc.nil _ _ _ _, Below.refl _ _⟩
  case round =>
    obtain ⟨i, ns, hi, rfl, hacc, hB⟩ := hrel
    have x0 := (cells5 (hq _ hB)).1
    by_cases hlt : (i : Int) < z.n
    · obtain ⟨bC, oC, y1, rfl, hbC, a1, a2, a3, hy1⟩ := row_num h0.c i (by omega)
      obtain ⟨bD, oD, y3, rfl, hbD, d1, d2, d3, hy3⟩ := row_num h0.r i (by omega)
      obtain ⟨ri, hri⟩ := get_some rs i (by omega)
      obtain ⟨br, or_, y2, rfl, hbr, b1, b2, b3, hy2⟩ := hr0.row i ri hri
      have hq5 := hq
      have hnl : ns.length ≤ i := by rw [hacc.len, pointZ_length]; exact Nat.le_refl _
      have hw1 := unit_W hur i
      have hw2 := fz_W200 (getD_num z.r hz.numR i)
      have hw3 := pt_W hz hue hur i 0 (Nat.zero_le _)
      have hp0 : ptT z es rs i 0 = fz (z.c.getD i 0) + mulZ ri (fz (z.r.getD i 0)) := by
        unfold ptT
        rw [getD_some' hri]
        exact Int.add_zero _
      rw [hp0] at hw3
      rw [getD_some' hri] at hw1
      have HP0 := Lib.hid hp0
      have HS0 := Lib.hid (pointZ_succ z es rs i)
      have hiC : (i : Int) < (z.c.length : Int) := by omega
      have hiD : (i : Int) < (z.r.length : Int) := by omega
      have hir : (i : Int) < (nr : Int) := by omega
      clear hri hp0
      generalize pointZ z es rs i = pz at *
      go_wp2_with fail
      go_cut [9] from 17 to 32 (fun v wx => ∃ (bv : Nat) (x : NV), v = .pointer (some ⟨bv, 0, none⟩) ∧ NumB wx bv x ∧ NumR (-1090) 971 wx x (fz (z.c.getD i 0) + mulZ ri (fz (z.r.getD i 0))) ∧ Below wr.heap.size wr wx ∧ wr.heap.size ≤ bv)
      case first =>
        clear x0
        have hS : ∀ W', Below wr.heap.size wr W' → (fun w' => (w'.cell? ⟨w.heap.size, 1, none⟩ = some (.slice (some ⟨bC, oC, none⟩) z.c.length kA) ∧ w'.cell? ⟨w.heap.size, 4, none⟩ = some (.slice (some ⟨bD, oD, none⟩) z.r.length kD)) ∧ (w'.cell? ⟨bC, oC + i * 3, none⟩ = some (.bool y1.neg) ∧ w'.cell? ⟨bC, oC + i * 3 + 1, none⟩ = some (.slice y1.A y1.n y1.cap) ∧ w'.cell? ⟨bC, oC + i * 3 + 2, none⟩ = some (.int .i64 y1.E)) ∧ (w'.cell? ⟨br, or_ + i * 3, none⟩ = some (.bool y2.neg) ∧ w'.cell? ⟨br, or_ + i * 3 + 1, none⟩ = some (.slice y2.A y2.n y2.cap) ∧ w'.cell? ⟨br, or_ + i * 3 + 2, none⟩ = some (.int .i64 y2.E)) ∧ (w'.cell? ⟨bD, oD + i * 3, none⟩ = some (.bool y3.neg) ∧ w'.cell? ⟨bD, oD + i * 3 + 1, none⟩ = some (.slice y3.A y3.n y3.cap) ∧ w'.cell? ⟨bD, oD + i * 3 + 2, none⟩ = some (.int .i64 y3.E))) W' := fun W' hb => ⟨⟨(cells5 (hq5 _ (hB.trans (hb.mono hB.size)))).2.1, (cells5 (hq5 _ (hB.trans (hb.mono hB.size)))).2.2.2.2⟩, ⟨((hB.trans (hb.mono hB.size)).cell (p := ⟨bC, oC + i * 3, none⟩) hbC).trans a1, ((hB.trans (hb.mono hB.size)).cell (p := ⟨bC, oC + i * 3 + 1, none⟩) hbC).trans a2, ((hB.trans (hb.mono hB.size)).cell (p := ⟨bC, oC + i * 3 + 2, none⟩) hbC).trans a3⟩, ⟨((hB.trans (hb.mono hB.size)).cell (p := ⟨br, or_ + i * 3, none⟩) hbr).trans b1, ((hB.trans (hb.mono hB.size)).cell (p := ⟨br, or_ + i * 3 + 1, none⟩) hbr).trans b2, ((hB.trans (hb.mono hB.size)).cell (p := ⟨br, or_ + i * 3 + 2, none⟩) hbr).trans b3⟩, ⟨((hB.trans (hb.mono hB.size)).cell (p := ⟨bD, oD + i * 3, none⟩) hbD).trans d1, ((hB.trans (hb.mono hB.size)).cell (p := ⟨bD, oD + i * 3 + 1, none⟩) hbD).trans d2, ((hB.trans (hb.mono hB.size)).cell (p := ⟨bD, oD + i * 3 + 2, none⟩) hbD).trans d3⟩⟩
        have hd := (Below.refl wr.heap.size wr).drew
        refine late_begin (fun w' => (w'.cell? ⟨w.heap.size, 1, none⟩ = some (.slice (some ⟨bC, oC, none⟩) z.c.length kA) ∧ w'.cell? ⟨w.heap.size, 4, none⟩ = some (.slice (some ⟨bD, oD, none⟩) z.r.length kD)) ∧ (w'.cell? ⟨bC, oC + i * 3, none⟩ = some (.bool y1.neg) ∧ w'.cell? ⟨bC, oC + i * 3 + 1, none⟩ = some (.slice y1.A y1.n y1.cap) ∧ w'.cell? ⟨bC, oC + i * 3 + 2, none⟩ = some (.int .i64 y1.E)) ∧ (w'.cell? ⟨br, or_ + i * 3, none⟩ = some (.bool y2.neg) ∧ w'.cell? ⟨br, or_ + i * 3 + 1, none⟩ = some (.slice y2.A y2.n y2.cap) ∧ w'.cell? ⟨br, or_ + i * 3 + 2, none⟩ = some (.int .i64 y2.E)) ∧ (w'.cell? ⟨bD, oD + i * 3, none⟩ = some (.bool y3.neg) ∧ w'.cell? ⟨bD, oD + i * 3 + 1, none⟩ = some (.slice y3.A y3.n y3.cap) ∧ w'.cell? ⟨bD, oD + i * 3 + 2, none⟩ = some (.int .i64 y3.E))) [17] (by kernel_rfl) ?_
        refine late_take (i := 0) (v := ?_) (some 17) rfl rfl (by kernel_rfl) (by kernel_rfl) (by kernel_rfl) (by kernel_rfl) (fun _ _ _ h => h) (by kernel_rfl) (hS _ hd) ?_ ?_
        rotate_left
        · (intro w hSw; (try dsimp only at hSw); go_simp; try rfl)
        try simp only [Act.put, List.setIfInBounds_toArray, List.set_cons_zero, List.set_cons_succ]
        refine late_take (i := 1) (v := ?_) (some 18) rfl rfl (by kernel_rfl) (by kernel_rfl) (by kernel_rfl) (by kernel_rfl) (fun _ _ _ h => h) (by kernel_rfl) (hS _ hd) ?_ ?_
        rotate_left
        · (intro w hSw; (try dsimp only at hSw); go_simp; try rfl)
        try simp only [Act.put, List.setIfInBounds_toArray, List.set_cons_zero, List.set_cons_succ]
        refine late_take (i := 2) (v := ?_) (some 19) rfl rfl (by kernel_rfl) (by kernel_rfl) (by kernel_rfl) (by kernel_rfl) (fun _ _ _ h => h) (by kernel_rfl) (hS _ hd) ?_ ?_
        rotate_left
        · (intro w hSw; (try dsimp only at hSw); go_simp; try rfl)
        try simp only [Act.put, List.setIfInBounds_toArray, List.set_cons_zero, List.set_cons_succ]
        refine late_take (i := 3) (v := ?_) (some 20) rfl rfl (by kernel_rfl) (by kernel_rfl) (by kernel_rfl) (by kernel_rfl) (fun _ _ _ h => h) (by kernel_rfl) (hS _ hd) ?_ ?_
        rotate_left
        · (intro w hSw; (try dsimp only at hSw); go_simp; try rfl)
        try simp only [Act.put, List.setIfInBounds_toArray, List.set_cons_zero, List.set_cons_succ]
        refine late_take (i := 4) (v := ?_) (some 21) rfl rfl (by kernel_rfl) (by kernel_rfl) (by kernel_rfl) (by kernel_rfl) (fun _ _ _ h => h) (by kernel_rfl) (hS _ hd) ?_ ?_
        rotate_left
        · (intro w hSw; (try dsimp only at hSw); go_simp; try rfl)
        try simp only [Act.put, List.setIfInBounds_toArray, List.set_cons_zero, List.set_cons_succ]
        refine late_take (i := 5) (v := ?_) (some 22) rfl rfl (by kernel_rfl) (by kernel_rfl) (by kernel_rfl) (by kernel_rfl) (fun _ _ _ h => h) (by kernel_rfl) (hS _ hd) ?_ ?_
        rotate_left
        · (intro w hSw; (try dsimp only at hSw); go_simp; try rfl)
        try simp only [Act.put, List.setIfInBounds_toArray, List.set_cons_zero, List.set_cons_succ]
        refine late_take (i := 6) (v := ?_) (some 23) rfl rfl (by kernel_rfl) (by kernel_rfl) (by kernel_rfl) (by kernel_rfl) (fun _ _ _ h => h) (by kernel_rfl) (hS _ hd) ?_ ?_
        rotate_left
        · (intro w hSw; (try dsimp only at hSw); go_simp; try rfl)
        try simp only [Act.put, List.setIfInBounds_toArray, List.set_cons_zero, List.set_cons_succ]
        refine late_take (i := 7) (v := ?_) (some 24) rfl rfl (by kernel_rfl) (by kernel_rfl) (by kernel_rfl) (by kernel_rfl) (fun _ _ _ h => h) (by kernel_rfl) (hS _ hd) ?_ ?_
        rotate_left
        · (intro w hSw; (try dsimp only at hSw); go_simp; try rfl)
        try simp only [Act.put, List.setIfInBounds_toArray, List.set_cons_zero, List.set_cons_succ]
        refine late_take (i := 8) (v := ?_) (some 25) rfl rfl (by kernel_rfl) (by kernel_rfl) (by kernel_rfl) (by kernel_rfl) (fun _ _ _ h => h) (by kernel_rfl) (hS _ hd) ?_ ?_
        rotate_left
        · (intro w hSw; (try dsimp only at hSw); go_simp; try rfl)
        try simp only [Act.put, List.setIfInBounds_toArray, List.set_cons_zero, List.set_cons_succ]
        refine late_take (i := 9) (v := ?_) (some 26) rfl rfl (by kernel_rfl) (by kernel_rfl) (by kernel_rfl) (by kernel_rfl) (fun _ _ _ h => h) (by kernel_rfl) (hS _ hd) ?_ ?_
        rotate_left
        · (intro w hSw; (try dsimp only at hSw); go_simp; try rfl)
        try simp only [Act.put, List.setIfInBounds_toArray, List.set_cons_zero, List.set_cons_succ]
        refine late_take (i := 10) (v := ?_) (some 27) rfl rfl (by kernel_rfl) (by kernel_rfl) (by kernel_rfl) (by kernel_rfl) (fun _ _ _ h => h) (by kernel_rfl) (hS _ hd) ?_ ?_
        rotate_left
        · (intro w hSw; (try dsimp only at hSw); go_simp; try rfl)
        try simp only [Act.put, List.setIfInBounds_toArray, List.set_cons_zero, List.set_cons_succ]
        refine late_take (i := 11) (v := ?_) (some 28) rfl rfl (by kernel_rfl) (by kernel_rfl) (by kernel_rfl) (by kernel_rfl) (fun _ _ _ h => h) (by kernel_rfl) (hS _ hd) ?_ ?_
        rotate_left
        · (intro w hSw; (try dsimp only at hSw); go_simp; try rfl)
        try simp only [Act.put, List.setIfInBounds_toArray, List.set_cons_zero, List.set_cons_succ]
        refine late_take (i := 12) (v := ?_) (some 29) rfl rfl (by kernel_rfl) (by kernel_rfl) (by kernel_rfl) (by kernel_rfl) (fun _ _ _ h => h) (by kernel_rfl) (hS _ hd) ?_ ?_
        rotate_left
        · (intro w hSw; (try dsimp only at hSw); go_simp; try rfl)
        try simp only [Act.put, List.setIfInBounds_toArray, List.set_cons_zero, List.set_cons_succ]
        refine late_take (i := 13) (v := ?_) (some 30) rfl rfl (by kernel_rfl) (by kernel_rfl) (by kernel_rfl) (by kernel_rfl) (fun _ _ _ h => h) (by kernel_rfl) (hS _ hd) ?_ ?_
        rotate_left
        · (intro w hSw; (try dsimp only at hSw); go_simp; try rfl)
        try simp only [Act.put, List.setIfInBounds_toArray, List.set_cons_zero, List.set_cons_succ]
        refine late_both (i := 14) (j := 16) rfl rfl (by kernel_rfl) ?_ ?_
        · intro K hK
          go_simp
          refine (times_r _ (-16) 0 (-1074) 971 y2 y3 _ _ (hy2.below (hB.trans (hd.mono hB.size))) (hy3.below (hB.trans (hd.mono hB.size))) (by decide) (by decide) (by decide) (by decide) (by decide) (by decide) (by decide) (by decide) hw1 hw2).mono ?_
          rintro e w2 ⟨x2, rfl, hx2, hb2⟩
          have hc2 := hd.trans (hb2.mono hd.size)
          try show K _ _
          refine hK.out _ _ (Or.inr (hS _ hc2)) ?_
          clear hK K
          try simp only [Act.put, List.setIfInBounds_toArray, List.set_cons_zero, List.set_cons_succ]
          refine late_both (i := 15) (j := 16) rfl rfl (by kernel_rfl) ?_ ?_
          · intro K hK
            go_simp
            refine (plus_r _ (-1090) 971 y1 x2 _ _ ((hy1.below (hB.trans (hc2.mono hB.size))).wide (by decide) (by decide)) (hx2.wide (by decide) (by decide)) (by decide) (by decide) (by decide) (by decide) hw3).mono ?_
            rintro e w3 ⟨x3, rfl, hx3, hb3⟩
            have hc3 := hc2.trans (hb3.mono hc2.size)
            try show K _ _
            refine hK.out _ _ (Or.inr (hS _ hc3)) ?_
            clear hK K
            try simp only [Act.put, List.setIfInBounds_toArray, List.set_cons_zero, List.set_cons_succ]
            refine late_one (i := 16) rfl (by kernel_rfl) ?_
            intro K hK
            go_simp
            have hv0 : NumB (w3.alloc (.cells #[.bool false, .slice none 0 0, .int .i64 0] 70)) w3.heap.size ⟨false, none, 0, 0, 0⟩ := heap_alloc_new w3 _
            have hvl := hc3.size
            have ha := hc3.alloc hc3.size (.cells #[.bool false, .slice none 0 0, .int .i64 0] 70)
            replace hx3 := hx3.below (below_alloc w3 (.cells #[.bool false, .slice none 0 0, .int .i64 0] 70))
            generalize w3.alloc (.cells #[.bool false, .slice none 0 0, .int .i64 0] 70) = Wa at *
            generalize w3.heap.size = bv at *
            try show K _ _
            refine hK.out _ _ (Or.inr (hS _ ha)) ?_
            clear hK K
            try simp only [Act.put, List.setIfInBounds_toArray, List.set_cons_zero, List.set_cons_succ]
            refine late_one (i := 17) rfl (by kernel_rfl) ?_
            intro K hK
            obtain ⟨p0, p1, p2⟩ := hv0.cells
            have hfr := fun j => frozen_of_row _ _ j _ _ hv0
            go_simp
            try show K _ _
            refine hK.out _ _ (Or.inl (by decide)) ?_
            clear hK K
            try simp only [Act.put, List.setIfInBounds_toArray, List.set_cons_zero, List.set_cons_succ]
            refine late_done (by kernel_rfl) ?_ _
            obtain ⟨n1, n2⟩ := hv0.put x3
            have hx9 := hx3.far n2 (fun g e => by cases e; exact hv0.typed) (by decide)
            have hB9 := ha.trans (below_row n2 hvl ha.size)
            go_wp2_with fail
            go_meet
            case rel => exact ⟨_, _, rfl, n1, hx9, hB9, hvl⟩
          · intro K hK
            go_simp
            have hv0 : NumB (w2.alloc (.cells #[.bool false, .slice none 0 0, .int .i64 0] 70)) w2.heap.size ⟨false, none, 0, 0, 0⟩ := heap_alloc_new w2 _
            have hvl := hc2.size
            have ha := hc2.alloc hc2.size (.cells #[.bool false, .slice none 0 0, .int .i64 0] 70)
            replace hx2 := hx2.below (below_alloc w2 (.cells #[.bool false, .slice none 0 0, .int .i64 0] 70))
            generalize w2.alloc (.cells #[.bool false, .slice none 0 0, .int .i64 0] 70) = Wa at *
            generalize w2.heap.size = bv at *
            try show K _ _
            refine hK.out _ _ (Or.inr (hS _ ha)) ?_
            clear hK K
            try simp only [Act.put, List.setIfInBounds_toArray, List.set_cons_zero, List.set_cons_succ]
            refine late_one (i := 15) rfl (by kernel_rfl) ?_
            intro K hK
            go_simp
            refine (plus_r _ (-1090) 971 y1 x2 _ _ ((hy1.below (hB.trans (ha.mono hB.size))).wide (by decide) (by decide)) (hx2.wide (by decide) (by decide)) (by decide) (by decide) (by decide) (by decide) hw3).mono ?_
            rintro e w3 ⟨x3, rfl, hx3, hb3⟩
            have hc3 := ha.trans (hb3.mono ha.size)
            replace hv0 := hv0.below hb3
            try show K _ _
            refine hK.out _ _ (Or.inr (hS _ hc3)) ?_
            clear hK K
            try simp only [Act.put, List.setIfInBounds_toArray, List.set_cons_zero, List.set_cons_succ]
            refine late_one (i := 17) rfl (by kernel_rfl) ?_
            intro K hK
            obtain ⟨p0, p1, p2⟩ := hv0.cells
            have hfr := fun j => frozen_of_row _ _ j _ _ hv0
            go_simp
            try show K _ _
            refine hK.out _ _ (Or.inl (by decide)) ?_
            clear hK K
            try simp only [Act.put, List.setIfInBounds_toArray, List.set_cons_zero, List.set_cons_succ]
            refine late_done (by kernel_rfl) ?_ _
            obtain ⟨n1, n2⟩ := hv0.put x3
            have hx9 := hx3.far n2 (fun g e => by cases e; exact hv0.typed) (by decide)
            have hB9 := hc3.trans (below_row n2 hvl hc3.size)
            go_wp2_with fail
            go_meet
            case rel => exact ⟨_, _, rfl, n1, hx9, hB9, hvl⟩
        · intro K hK
          go_simp
          have hv0 : NumB (wr.alloc (.cells #[.bool false, .slice none 0 0, .int .i64 0] 70)).drew wr.heap.size ⟨false, none, 0, 0, 0⟩ := heap_alloc_new wr _
          have hvl := Nat.le_refl wr.heap.size
          have ha : Below wr.heap.size wr (wr.alloc (.cells #[.bool false, .slice none 0 0, .int .i64 0] 70)).drew := ((Below.refl _ _).alloc (Nat.le_refl _) _).drew
          generalize (wr.alloc (.cells #[.bool false, .slice none 0 0, .int .i64 0] 70)).drew = Wa at *
          try show K _ _
          refine hK.out _ _ (Or.inr (hS _ ha)) ?_
          clear hK K
          try simp only [Act.put, List.setIfInBounds_toArray, List.set_cons_zero, List.set_cons_succ]
          refine late_one (i := 14) rfl (by kernel_rfl) ?_
          intro K hK
          go_simp
          refine (times_r _ (-16) 0 (-1074) 971 y2 y3 _ _ (hy2.below (hB.trans (ha.mono hB.size))) (hy3.below (hB.trans (ha.mono hB.size))) (by decide) (by decide) (by decide) (by decide) (by decide) (by decide) (by decide) (by decide) hw1 hw2).mono ?_
          rintro e w2 ⟨x2, rfl, hx2, hb2⟩
          have hc2 := ha.trans (hb2.mono ha.size)
          replace hv0 := hv0.below hb2
          try show K _ _
          refine hK.out _ _ (Or.inr (hS _ hc2)) ?_
          clear hK K
          try simp only [Act.put, List.setIfInBounds_toArray, List.set_cons_zero, List.set_cons_succ]
          refine late_one (i := 15) rfl (by kernel_rfl) ?_
          intro K hK
          go_simp
          refine (plus_r _ (-1090) 971 y1 x2 _ _ ((hy1.below (hB.trans (hc2.mono hB.size))).wide (by decide) (by decide)) (hx2.wide (by decide) (by decide)) (by decide) (by decide) (by decide) (by decide) hw3).mono ?_
          rintro e w3 ⟨x3, rfl, hx3, hb3⟩
          have hc3 := hc2.trans (hb3.mono hc2.size)
          replace hv0 := hv0.below hb3
          try show K _ _
          refine hK.out _ _ (Or.inr (hS _ hc3)) ?_
          clear hK K
          try simp only [Act.put, List.setIfInBounds_toArray, List.set_cons_zero, List.set_cons_succ]
          refine late_one (i := 17) rfl (by kernel_rfl) ?_
          intro K hK
          obtain ⟨p0, p1, p2⟩ := hv0.cells
          have hfr := fun j => frozen_of_row _ _ j _ _ hv0
          go_simp
          try show K _ _
          refine hK.out _ _ (Or.inl (by decide)) ?_
          clear hK K
          try simp only [Act.put, List.setIfInBounds_toArray, List.set_cons_zero, List.set_cons_succ]
          refine late_done (by kernel_rfl) ?_ _
          obtain ⟨n1, n2⟩ := hv0.put x3
          have hx9 := hx3.far n2 (fun g e => by cases e; exact hv0.typed) (by decide)
          have hB9 := hc3.trans (below_row n2 hvl hc3.size)
          go_wp2_with fail
          go_meet
          case rel => exact ⟨_, _, rfl, n1, hx9, hB9, hvl⟩
      case rest =>
        obtain ⟨bv, xv, rfl, hvb, hvr, hBv0, hbv⟩ := hcut
        obtain ⟨Wr, hWr⟩ : ∃ W, W = wr := ⟨_, rfl⟩
        subst hWr
        rw [← HP0.out] at hvr
        clear x0 a1 a2 a3 b1 b2 b3 d1 d2 d3 hw1 hw2 hw3 hy1 hy2 hy3
        go_wp2_with fail
        go_loopw [10] (fun kk wi => ∃ (k : Nat) (x : NV), k ≤ z.g.length ∧ kk = .int .i64 (k : Nat) ∧ NumB wi bv x ∧ NumR (-1090) 971 wi x (ptT z es rs i k) ∧ Below Wr.heap.size Wr wi) (fun kk _ => z.g.length - (intOf kk).toNat)
        case atStart => exact ⟨0, _, Nat.zero_le _, rfl, hvb, hvr, hBv0⟩
        case round =>
          clear hvb hvr hBv0
          obtain ⟨k, x, hkl, rfl, hx, hxr, hBv⟩ := hrel
          have hBi := hB.trans (hBv.mono hB.size)
          have x3 := (cells5 (hq5 _ hBi)).2.2.2.1
          by_cases hltk : k < z.g.length
          · have hltk' : (k : Int) < (z.g.length : Int) := by omega
            have hgx : z.g[k]? = some (colZ z k) := by unfold colZ; rw [List.getD_eq_getElem?_getD, List.getElem?_eq_getElem hltk, Option.getD_some]
            have hin : i < (colZ z k).length := by have := (hz.colG k _ hgx).2; omega
            have hin' : (i : Int) < ((colZ z k).length : Int) := by omega
            have hke : (k : Int) < (ne : Int) := by omega
            obtain ⟨bc, oc, bn, on, cn, y5, rfl, hbc, e0, hbn, e1, e2, e3, hy5⟩ := col_num h0 k i hltk hin
            obtain ⟨ek, hek⟩ := get_some es k (by omega)
            obtain ⟨be, oe, y4, rfl, hbe, b1, b2, b3, hy4⟩ := he0.row k ek hek
            have hw1 := unit_W hue k
            have hw2 := fz_W200 (getD_num _ (hz.colNum k) i)
            have hw3 := pt_W hz hue hur i (k + 1) hltk
            have hsu := ptT_succ z es rs i k
            rw [getD_some' hek] at hw1 hsu
            rw [hsu] at hw3
            have HS := Lib.hid hsu
            clear hgx hek hsu
            generalize ptT z es rs i k = s at *
            go_wp2_with fail
            clear x3
            have hS : ∀ W', Below wr.heap.size wr W' → (fun w' => (w'.cell? ⟨bv, 0, none⟩ = some (.bool x.neg) ∧ w'.cell? ⟨bv, 1, none⟩ = some (.slice x.A x.n x.cap) ∧ w'.cell? ⟨bv, 2, none⟩ = some (.int .i64 x.E)) ∧ (w'.cell? ⟨be, oe + k * 3, none⟩ = some (.bool y4.neg) ∧ w'.cell? ⟨be, oe + k * 3 + 1, none⟩ = some (.slice y4.A y4.n y4.cap) ∧ w'.cell? ⟨be, oe + k * 3 + 2, none⟩ = some (.int .i64 y4.E)) ∧ w'.cell? ⟨w.heap.size, 3, none⟩ = some (.slice (some ⟨bc, oc, none⟩) z.g.length kC) ∧ w'.cell? ⟨bc, oc + k, none⟩ = some (.slice (some ⟨bn, on, none⟩) (colZ z k).length cn) ∧ (w'.cell? ⟨bn, on + i * 3, none⟩ = some (.bool y5.neg) ∧ w'.cell? ⟨bn, on + i * 3 + 1, none⟩ = some (.slice y5.A y5.n y5.cap) ∧ w'.cell? ⟨bn, on + i * 3 + 2, none⟩ = some (.int .i64 y5.E))) W' := fun W' hb => ⟨(hx.below hb).cells, ⟨((hBi.trans (hb.mono hBi.size)).cell (p := ⟨be, oe + k * 3, none⟩) hbe).trans b1, ((hBi.trans (hb.mono hBi.size)).cell (p := ⟨be, oe + k * 3 + 1, none⟩) hbe).trans b2, ((hBi.trans (hb.mono hBi.size)).cell (p := ⟨be, oe + k * 3 + 2, none⟩) hbe).trans b3⟩, (cells5 (hq5 _ (hBi.trans (hb.mono hBi.size)))).2.2.2.1, ((hBi.trans (hb.mono hBi.size)).cell (p := ⟨bc, oc + k, none⟩) hbc).trans e0, ⟨((hBi.trans (hb.mono hBi.size)).cell (p := ⟨bn, on + i * 3, none⟩) hbn).trans e1, ((hBi.trans (hb.mono hBi.size)).cell (p := ⟨bn, on + i * 3 + 1, none⟩) hbn).trans e2, ((hBi.trans (hb.mono hBi.size)).cell (p := ⟨bn, on + i * 3 + 2, none⟩) hbn).trans e3⟩⟩
            have hd := (Below.refl wr.heap.size wr).drew
            refine late_begin (fun w' => (w'.cell? ⟨bv, 0, none⟩ = some (.bool x.neg) ∧ w'.cell? ⟨bv, 1, none⟩ = some (.slice x.A x.n x.cap) ∧ w'.cell? ⟨bv, 2, none⟩ = some (.int .i64 x.E)) ∧ (w'.cell? ⟨be, oe + k * 3, none⟩ = some (.bool y4.neg) ∧ w'.cell? ⟨be, oe + k * 3 + 1, none⟩ = some (.slice y4.A y4.n y4.cap) ∧ w'.cell? ⟨be, oe + k * 3 + 2, none⟩ = some (.int .i64 y4.E)) ∧ w'.cell? ⟨w.heap.size, 3, none⟩ = some (.slice (some ⟨bc, oc, none⟩) z.g.length kC) ∧ w'.cell? ⟨bc, oc + k, none⟩ = some (.slice (some ⟨bn, on, none⟩) (colZ z k).length cn) ∧ (w'.cell? ⟨bn, on + i * 3, none⟩ = some (.bool y5.neg) ∧ w'.cell? ⟨bn, on + i * 3 + 1, none⟩ = some (.slice y5.A y5.n y5.cap) ∧ w'.cell? ⟨bn, on + i * 3 + 2, none⟩ = some (.int .i64 y5.E))) [15] (by kernel_rfl) ?_
            refine late_take (i := 0) (v := ?_) (some 40) rfl rfl (by kernel_rfl) (by kernel_rfl) (by kernel_rfl) (by kernel_rfl) (fun _ _ _ h => h) (by kernel_rfl) (hS _ hd) ?_ ?_
            rotate_left
            · (intro w hSw; (try dsimp only at hSw); go_simp; try rfl)
            try simp only [Act.put, List.setIfInBounds_toArray, List.set_cons_zero, List.set_cons_succ]
            refine late_take (i := 1) (v := ?_) (some 41) rfl rfl (by kernel_rfl) (by kernel_rfl) (by kernel_rfl) (by kernel_rfl) (fun _ _ _ h => h) (by kernel_rfl) (hS _ hd) ?_ ?_
            rotate_left
            · (intro w hSw; (try dsimp only at hSw); go_simp; try rfl)
            try simp only [Act.put, List.setIfInBounds_toArray, List.set_cons_zero, List.set_cons_succ]
            refine late_take (i := 2) (v := ?_) (some 42) rfl rfl (by kernel_rfl) (by kernel_rfl) (by kernel_rfl) (by kernel_rfl) (fun _ _ _ h => h) (by kernel_rfl) (hS _ hd) ?_ ?_
            rotate_left
            · (intro w hSw; (try dsimp only at hSw); go_simp; try rfl)
            try simp only [Act.put, List.setIfInBounds_toArray, List.set_cons_zero, List.set_cons_succ]
            refine late_take (i := 3) (v := ?_) (some 43) rfl rfl (by kernel_rfl) (by kernel_rfl) (by kernel_rfl) (by kernel_rfl) (fun _ _ _ h => h) (by kernel_rfl) (hS _ hd) ?_ ?_
            rotate_left
            · (intro w hSw; (try dsimp only at hSw); go_simp; try rfl)
            try simp only [Act.put, List.setIfInBounds_toArray, List.set_cons_zero, List.set_cons_succ]
            refine late_take (i := 4) (v := ?_) (some 44) rfl rfl (by kernel_rfl) (by kernel_rfl) (by kernel_rfl) (by kernel_rfl) (fun _ _ _ h => h) (by kernel_rfl) (hS _ hd) ?_ ?_
            rotate_left
            · (intro w hSw; (try dsimp only at hSw); go_simp; try rfl)
            try simp only [Act.put, List.setIfInBounds_toArray, List.set_cons_zero, List.set_cons_succ]
            refine late_take (i := 5) (v := ?_) (some 45) rfl rfl (by kernel_rfl) (by kernel_rfl) (by kernel_rfl) (by kernel_rfl) (fun _ _ _ h => h) (by kernel_rfl) (hS _ hd) ?_ ?_
            rotate_left
            · (intro w hSw; (try dsimp only at hSw); go_simp; try rfl)
            try simp only [Act.put, List.setIfInBounds_toArray, List.set_cons_zero, List.set_cons_succ]
            refine late_take (i := 6) (v := ?_) (some 46) rfl rfl (by kernel_rfl) (by kernel_rfl) (by kernel_rfl) (by kernel_rfl) (fun _ _ _ h => h) (by kernel_rfl) (hS _ hd) ?_ ?_
            rotate_left
            · (intro w hSw; (try dsimp only at hSw); go_simp; try rfl)
            try simp only [Act.put, List.setIfInBounds_toArray, List.set_cons_zero, List.set_cons_succ]
            refine late_take (i := 7) (v := ?_) (some 47) rfl rfl (by kernel_rfl) (by kernel_rfl) (by kernel_rfl) (by kernel_rfl) (fun _ _ _ h => h) (by kernel_rfl) (hS _ hd) ?_ ?_
            rotate_left
            · (intro w hSw; (try dsimp only at hSw); go_simp; try rfl)
            try simp only [Act.put, List.setIfInBounds_toArray, List.set_cons_zero, List.set_cons_succ]
            refine late_take (i := 8) (v := ?_) (some 48) rfl rfl (by kernel_rfl) (by kernel_rfl) (by kernel_rfl) (by kernel_rfl) (fun _ _ _ h => h) (by kernel_rfl) (hS _ hd) ?_ ?_
            rotate_left
            · (intro w hSw; (try dsimp only at hSw); go_simp; try rfl)
            try simp only [Act.put, List.setIfInBounds_toArray, List.set_cons_zero, List.set_cons_succ]
            refine late_take (i := 9) (v := ?_) (some 49) rfl rfl (by kernel_rfl) (by kernel_rfl) (by kernel_rfl) (by kernel_rfl) (fun _ _ _ h => h) (by kernel_rfl) (hS _ hd) ?_ ?_
            rotate_left
            · (intro w hSw; (try dsimp only at hSw); go_simp; try rfl)
            try simp only [Act.put, List.setIfInBounds_toArray, List.set_cons_zero, List.set_cons_succ]
            refine late_take (i := 10) (v := ?_) (some 50) rfl rfl (by kernel_rfl) (by kernel_rfl) (by kernel_rfl) (by kernel_rfl) (fun _ _ _ h => h) (by kernel_rfl) (hS _ hd) ?_ ?_
            rotate_left
            · (intro w hSw; (try dsimp only at hSw); go_simp; try rfl)
            try simp only [Act.put, List.setIfInBounds_toArray, List.set_cons_zero, List.set_cons_succ]
            refine late_take (i := 11) (v := ?_) (some 51) rfl rfl (by kernel_rfl) (by kernel_rfl) (by kernel_rfl) (by kernel_rfl) (fun _ _ _ h => h) (by kernel_rfl) (hS _ hd) ?_ ?_
            rotate_left
            · (intro w hSw; (try dsimp only at hSw); go_simp; try rfl)
            try simp only [Act.put, List.setIfInBounds_toArray, List.set_cons_zero, List.set_cons_succ]
            refine late_take (i := 12) (v := ?_) (some 52) rfl rfl (by kernel_rfl) (by kernel_rfl) (by kernel_rfl) (by kernel_rfl) (fun _ _ _ h => h) (by kernel_rfl) (hS _ hd) ?_ ?_
            rotate_left
            · (intro w hSw; (try dsimp only at hSw); go_simp; try rfl)
            try simp only [Act.put, List.setIfInBounds_toArray, List.set_cons_zero, List.set_cons_succ]
            refine late_one (i := 13) rfl (by kernel_rfl) ?_
            intro K hK
            go_simp
            refine (times_r _ (-16) 0 (-1074) 971 y4 y5 _ _ (hy4.below (hBi.trans (hd.mono hBi.size))) (hy5.below (hBi.trans (hd.mono hBi.size))) (by decide) (by decide) (by decide) (by decide) (by decide) (by decide) (by decide) (by decide) hw1 hw2).mono ?_
            rintro e w2 ⟨x2, rfl, hx2, hb2⟩
            have hc2 := hd.trans (hb2.mono hd.size)
            try show K _ _
            refine hK.out _ _ (Or.inr (hS _ hc2)) ?_
            clear hK K
            try simp only [Act.put, List.setIfInBounds_toArray, List.set_cons_zero, List.set_cons_succ]
            refine late_one (i := 14) rfl (by kernel_rfl) ?_
            intro K hK
            go_simp
            refine (plus_r _ (-1090) 971 x x2 _ _ (hxr.below hc2) (hx2.wide (by decide) (by decide)) (by decide) (by decide) (by decide) (by decide) hw3).mono ?_
            rintro e w3 ⟨xn, rfl, hx3, hb3⟩
            have hc3 := hc2.trans (hb3.mono hc2.size)
            try show K _ _
            refine hK.out _ _ (Or.inr (hS _ hc3)) ?_
            clear hK K
            try simp only [Act.put, List.setIfInBounds_toArray, List.set_cons_zero, List.set_cons_succ]
            refine late_one (i := 15) rfl (by kernel_rfl) ?_
            intro K hK
            have hb3' := hx.below hc3
            obtain ⟨p0, p1, p2⟩ := hb3'.cells
            have hfr := fun j => frozen_of_row w3 bv j _ _ hb3'
            go_simp
            try show K _ _
            refine hK.out _ _ (Or.inl (by decide)) ?_
            clear hK K
            try simp only [Act.put, List.setIfInBounds_toArray, List.set_cons_zero, List.set_cons_succ]
            refine late_done (by kernel_rfl) ?_ _
            obtain ⟨n1, n2⟩ := hb3'.put xn
            have hx9 := hx3.far n2 (fun g e => by cases e; exact hb3'.typed) (by decide)
            have hB9 := (hBv.trans (hc3.mono hBv.size)).trans (below_row n2 hbv (hBv.trans (hc3.mono hBv.size)).size)
            clear hS hy4 hy5 hw3 hb2 hb3 hc2 hc3 p0 p1 p2 hfr n2 b1 b2 b3 e0 e1 e2 e3
            go_wp2_with fail
            go_roundw
            case rel => exact ⟨k + 1, _, by omega, by go_num, n1, (by rw [HS.out]; exact hx9), hB9⟩
            case measure => simp [intOf]; omega
          · have hkm : k = z.g.length := by omega
            subst hkm
            have hlt' : decide ((z.g.length : Int) < (z.g.length : Nat)) = false := by simp
            obtain ⟨s0, s1, s2⟩ := hx.cells
            have hb3 := below_alloc wr (.cells #[.bool x.neg, .slice x.A x.n x.cap, .int .i64 x.E] 70)
            have hacc4 := (hacc.below hBv).below hb3
            have hx4 := hxr.below hb3
            have hnew := heap_alloc_new wr (.cells #[.bool x.neg, .slice x.A x.n x.cap, .int .i64 x.E] 70)
            have hB4 := hBi.trans (hb3.mono hBi.size)
            have hsz4 := hB4.size
            clear hacc hBv hb3 hxr
            go_wp2_with (at_builtin; refine wpList_append_g NV.cells 3 40 (.agg #[.bool false, .slice none 0 0, .int .i64 0]) 58 70 Tryz.underlying58 infoNum rfl (by decide) (fun _ => rfl) rfl (.tmp 55) (.tmp 57) rfl W0.heap.size _ ns [x] rfl hacc4.own ⟨wr.heap.size, 0, none⟩ 1 1 rfl rfl (World.news_of_block hnew) (by unfold maxLen; omega) (by omega) hsz4 (fun y hy u hu => by simp at hy; subst hy; simp [NV.cells] at hu; rcases hu with rfl | rfl | rfl <;> rfl) ?_; intro v5 w5 ho5 hg5 _; have hA5 := hacc4.add hx4 ho5 hg5; have hbel5 := hB4.trans (below_ownG hacc4.own hg5 hsz4); clear ho5 hg5 hacc4 hx4 hnew hB4)
            go_roundw
            case rel => exact ⟨i + 1, _, by omega, by go_num, (by rw [HS0.out]; exact hA5), hbel5⟩
            case measure => simp [intOf]; omega
    · have hin : i = z.n.toNat := by omega
      subst hin
      have hlt' : decide (((z.n.toNat : Nat) : Int) < z.n) = false := decide_eq_false (by omega)
      obtain ⟨A', cap', hv, hR⟩ := hacc.row
      rw [pointZ_length] at hv
      subst hv
      have HR := Lib.hid hR
      clear hR hacc
      go_wp2_with fail
      go_ret
      exact ⟨_, _, rfl, HR.out, hb0.trans (hB.mono hb0.size)⟩
end Go.Proofs.YtpfbgenefjhcjaaGreatDoor
