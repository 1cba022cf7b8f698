/- law10.ZonoReaches. -/
import Derived.Test.YtpfbgenefjhcjaaGreatDoorZoReaP
import Derived.Test.YtpfbgenefjhcjaaGreatDoorPZoStart
import Derived.Test.YtpfbgenefjhcjaaGreatDoorPZoFrame
namespace Go.Proofs.YtpfbgenefjhcjaaGreatDoor
set_option linter.unusedVariables false
set_option linter.unusedSimpArgs false
open Go Go.RowKit
set_option maxRecDepth 100000
attribute [local go_sem] run_store_flt
/-- A list of the lists of a zonotope of reals. -/
theorem col_row {w : World} {z : ZD} {A B C D : Option Addr} {kA kB kC kD : Nat} (h : RealC w z A B C D kA kB kC kD) (k : Nat) (hk : k < z.g.length) :
    ∃ (bc oc : Nat) (B' : Option Addr) (cn : Nat), C = some ⟨bc, oc, none⟩ ∧ bc < w.heap.size ∧ w.cell? ⟨bc, oc + k, none⟩ = some (.slice B' (colZ z k).length cn) ∧ NLt (-1074) 971 w B' cn ((colZ z k).map fz) := by
  have hg : z.g[k]? = some (colZ z k) := by unfold colZ; rw [List.getD_eq_getElem?_getD, List.getElem?_eq_getElem hk, Option.getD_some]
  have hm : (z.g.map fun g => g.map fz)[k]? = some ((colZ z k).map fz) := by rw [List.getElem?_map, hg]; rfl
  obtain ⟨bc, oc, e, hb, B', cap, hc, hn⟩ := h.g k _ hm
  rw [List.length_map] at hc
  exact ⟨bc, oc, B', cap, e, hb, hc, hn⟩
/-- The product of a direction and a list. -/
theorem dot_any (w : World) (Av : Option Addr) (cv : Nat) (d : List Nat) (B' : Option Addr) (cn : Nat) (l : List Nat) (hv : NLt (-1074) 971 w Av cv (d.map fz)) (hl : NLt (-1074) 971 w B' cn (l.map fz)) (hd : ∀ u ∈ d, fexp u ≠ 2047) (hn : ∀ u ∈ l, fexp u ≠ 2047) (n : Nat) (hdl : d.length = n) (hll : l.length = n) (hm : n ≤ 1000000) :
    Calls Tryz.prog 41 #[.slice Av d.length cv, .slice B' l.length cn] w fun e w' => TellsR (-2148) 1942 w (dotZ d l n) e w' := by
  subst hdl
  have h := product_any w (-1074) 971 (-1074) 971 Av B' cv cn d.length l.length (d.map fz) (l.map fz) hv hl (by rw [List.length_map]) (by rw [List.length_map]) (by omega) (by omega) (by omega) (by decide) (by decide) (by decide) (by decide) (by decide) (by decide) (by decide) (by decide)
    (fun i _ => by rw [map_fz_get]; exact fz_W200 (getD_num d hd i)) (fun i _ => by rw [map_fz_get]; exact fz_W200 (getD_num l hn i))
    (fun k hk => by rw [prod_dot]; exact few_W _ k (by omega) (dotZ_bound d l k hd hn))
  rw [prod_dot] at h
  exact h
/-- The product of a direction and a point. -/
theorem dotp_any (w : World) (z : ZD) (hz : Good z) (Av : Option Addr) (cv : Nat) (d : List Nat) (Ap : Option Addr) (kp : Nat) (es rs : List Int) (hv : NLt (-1074) 971 w Av cv (d.map fz)) (hp : NLt (-1090) 971 w Ap kp (pointZ z es rs z.n.toNat)) (hd : ∀ u ∈ d, fexp u ≠ 2047) (hdl : d.length = z.n.toNat) (he : Unit1 es) (hr : Unit1 rs) :
    Calls Tryz.prog 41 #[.slice Av d.length cv, .slice Ap z.n.toNat kp] w fun e w' => TellsR (-2164) 1942 w (prodN (d.map fz) (pointZ z es rs z.n.toNat) z.n.toNat) e w' := by
  have hn2 := hz.n2
  have h := product_any w (-1074) 971 (-1090) 971 Av Ap cv kp d.length z.n.toNat (d.map fz) (pointZ z es rs z.n.toNat) hv hp (by rw [List.length_map]) (pointZ_length _ _ _ _) (by omega) (by omega) (by omega) (by decide) (by decide) (by decide) (by decide) (by decide) (by decide) (by decide) (by decide)
    (fun i _ => by rw [map_fz_get]; exact fz_W200 (getD_num d hd i)) (fun i hi => by rw [pointZ_get _ _ _ _ _ (by omega)]; exact ptZ_W hz he hr i)
    (fun k hk => W400_of (Nat.lt_of_lt_of_le (prodN_W hz hd he hr k (by omega)) (Nat.le_mul_of_pos_left _ (by decide))))
  rw [hdl] at h ⊢
  exact h
theorem dirs_any (w : World) (A : Option Addr) (n cap : Nat) (us : List Nat) (N : Int) (h : FR w A us) (hs : Small us) (hl : us.length = n) (hN : N ≤ 1000000) (hm : n ≤ MAXF) :
    Calls Tryz.prog 34 #[.slice A n cap, .int .i64 N] w fun e w' => ∃ v, e = .returned (.tuple #[v, .bool (rowD us N)]) ∧ (rowD us N = true → ∃ A' cap', v = .slice A' us.length cap' ∧ NLt (-1074) 971 w' A' cap' (us.map fz)) ∧ Below w.heap.size w w' := by
  refine (directions_any w A n cap us N h hs hl hN hm).mono fun e w' ht => ?_
  rcases ht with ⟨h0, A', cap', h1, h2, h3⟩ | ⟨h0, h1, h2⟩
  · exact ⟨_, by rw [h1, h0], fun _ => ⟨A', cap', rfl, h2⟩, h3⟩
  · exact ⟨_, by rw [h1, h0], fun h => absurd (h0.symm.trans h) (by decide), h2⟩
theorem sign_neg (x : Int) : decide (x.sign < 0) = decide (x < 0) := by
  by_cases h : x < 0
  · rw [decide_eq_true h, decide_eq_true (Int.sign_neg_iff.2 h)]
  · rw [decide_eq_false h, decide_eq_false (fun h' => h (Int.sign_neg_iff.1 h'))]
theorem sgnZ_yes {x : Int} (h : decide (x < 0) = true) : sgnZ x = -1 * oneZ := by
  unfold sgnZ
  rw [if_pos (of_decide_eq_true h), Int.neg_mul, Int.one_mul]
theorem sgnZ_no {x : Int} (h : decide (x < 0) = false) : sgnZ x = 1 * oneZ := by
  unfold sgnZ
  rw [if_neg (of_decide_eq_false h), Int.one_mul]
theorem pointZ_at (z : ZD) (es rs : List Int) (n i : Nat) (h : i < n) : (pointZ z es rs n)[i]? = some (ptZ z es rs i) := by
  unfold pointZ
  rw [List.getElem?_map, List.getElem?_range h]
  rfl
theorem bnd_bits (z : ZD) (i : Nat) : (fexp (bndD z i).lo ≠ 2047 ∧ (bndD z i).lo < B64) ∧ (fexp (bndD z i).hi ≠ 2047 ∧ (bndD z i).hi < B64) := by
  unfold bndD spanD
  split
  · exact ⟨down_num _, up_num _⟩
  · exact ⟨⟨by decide, by decide⟩, ⟨by decide, by decide⟩⟩
theorem cmpW {p : Int} {u : Nat} (h : p.natAbs ≤ 2 ^ 31 * FB) (hu : fexp u ≠ 2047) : (p + -fz u).natAbs < W32 ^ 400 := by
  have h1 := fz_lt u hu
  have h2 : FB ≤ 2 ^ 31 * FB := Nat.le_mul_of_pos_left _ (by decide)
  have h3 : 2 ^ 32 * FB = 2 ^ 31 * FB + 2 ^ 31 * FB := by rw [← Nat.add_mul]
  refine few_W _ (2 ^ 32) (by decide) (Nat.le_trans ?_ (Nat.mul_le_mul_left _ FB_le_PB))
  generalize 2 ^ 32 * FB = X at *
  generalize 2 ^ 31 * FB = Y at *
  omega
theorem pt_few {z : ZD} (hz : Good z) {es rs : List Int} (he : Unit1 es) (hr : Unit1 rs) (i : Nat) : (ptZ z es rs i).natAbs ≤ 2 ^ 31 * FB := by
  have h1 := hz.cols
  refine Nat.le_trans (pt_bound hz he hr i z.g.length) (Nat.mul_le_mul_right _ ?_)
  rw [show (2 : Nat) ^ 31 = 2147483648 from rfl]
  omega
theorem cmpW2 {p : Int} {u : Nat} (h : p.natAbs < QB) (hu : fexp u ≠ 2047) : (p + -fz u).natAbs < W32 ^ 400 := by
  have h1 := fz_lt u hu
  have h2 : FB ≤ QB := Nat.pow_le_pow_right (by decide) (by unfold expF expQ; omega)
  refine W400_of ?_
  generalize QB = Y at *
  omega
set_option maxHeartbeats 16000000 in
theorem reaches_any (w : World) (v : Value) (z : ZD) (h : ZIn w v z) (Ad : Option Addr) (cd : Nat) (d : List Nat) (hd0 : FIn w Ad cd d) (Al : Option Addr) (cl : Nat) (l : List Int) (hl0 : IIn w Al cl l) (nb : Int) (lo : -9223372036854775808 ≤ nb) (hi : nb ≤ 9223372036854775807) :
    Calls Tryz.prog 5 #[v, .slice Ad d.length cd, .slice Al l.length cl, .int .i64 nb] w fun e w' => e = .returned (.bool true) ∧ Below w.heap.size w w' := by
  obtain ⟨A, B, C, D, kA, kB, kC, kD, rfl, hc, hk, hgn⟩ := h
  have hb1 := below_alloc w (.cells #[.int .i64 z.n, .slice A z.c.length kA, .slice B z.ids.length kB, .slice C z.g.length kC, .slice D z.r.length kD, .bool z.bad] 26)
  have hx := heap_alloc_new w (.cells #[.int .i64 z.n, .slice A z.c.length kA, .slice B z.ids.length kB, .slice C z.g.length kC, .slice D z.r.length kD, .bool z.bad] 26)
  have hof := Of10_any _ _ z ⟨A, B, C, D, kA, kB, kC, kD, rfl, hc.below hb1⟩ hk
  unfold zval at hof ⊢
  clear hgn
  cases hgd : goodD z with
  | false =>
    have hsd : supD z d = (0, false) := by unfold supD; rw [hgd]; rfl
    have hbs : bndsD z = [] := by unfold bndsD; rw [hgd]; rfl
    go_enter Tryz.func5, Tryz.ntmps5
    go_wp2_with fail
    refine hof.mono ?_
    rintro e w1 ⟨v1, rfl, ⟨A0, B0, C0, D0, kA0, kB0, kC0, kD0, rfl, hu1⟩, hb⟩
    have g0 : ZB w1 w.heap.size _ _ _ _ _ _ := ZB.below hx hb
    have hB := hb1.trans (hb.mono hb1.size)
    have hre := Reals_any w1 _ z ⟨A0, B0, C0, D0, kA0, kB0, kC0, kD0, rfl, hu1⟩ hk
    unfold zval at hre ⊢
    clear hof hx hb hb1
    go_wp2_with fail
    refine hre.mono ?_
    rintro e w2 (⟨hg', v2, rfl, _, hb⟩ | ⟨_, rfl, hb⟩)
    · rw [hgd] at hg'
      cases hg'
    unfold noReal
    have hba := below_alloc w2 (.cells #[.int .i64 0, .slice none 0 0, .slice none 0 0, .slice none 0 0, .slice none 0 0] 61)
    have gr := heap_alloc_new w2 (.cells #[.int .i64 0, .slice none 0 0, .slice none 0 0, .slice none 0 0, .slice none 0 0] 61)
    replace g0 := (g0.below hb).below hba
    replace hB := (hB.trans (hb.mono hB.size)).trans (hba.mono (hB.trans (hb.mono hB.size)).size)
    have hsu := support_any _ _ z Ad cd d ⟨A, B, C, D, kA, kB, kC, kD, rfl, hc.below hB⟩ hk (hd0.at_.row.below (Nat.le_refl _) hB) hd0.small (maxF hd0.most)
    unfold zval at hsu
    rw [hsd] at hsu
    obtain ⟨x0, x1, x2, x3, x4, x5⟩ := cells6 g0
    clear hre hb hba hu1
    go_wp2_with fail
    refine hsu.mono ?_
    rintro e w3 ⟨rfl, hb⟩
    replace gr := (hb.block _ (Array.getElem?_eq_some_iff.1 gr).1).trans gr
    replace g0 := g0.below hb
    replace hB := hB.trans (hb.mono hB.size)
    skip
    have hbd := bounds_any _ _ z ⟨A, B, C, D, kA, kB, kC, kD, rfl, hc.below hB⟩ hk
    unfold zval at hbd
    rw [hbs] at hbd
    clear x0 x1 x2 x3 x4 x5 hsu hb
    obtain ⟨x0, x1, x2, x3, x4, x5⟩ := cells6 g0
    go_wp2_with fail
    refine hbd.mono ?_
    rintro e w4 ⟨As, cs, rfl, hS, hs1, hs2, hb⟩
    replace gr := (hb.block _ (Array.getElem?_eq_some_iff.1 gr).1).trans gr
    replace hB := hB.trans (hb.mono hB.size)
    skip
    clear x0 x1 x2 x3 x4 x5 hbd hb g0
    obtain ⟨r0, r1, r2, r3, r4⟩ := cells5 gr
    have hdr := directions_any w4 Ad d.length cd d 0 (hd0.at_.row.below (Nat.le_refl _) hB) hd0.small rfl (by decide) hd0.most
    go_wp2_with fail
    refine hdr.mono ?_
    rintro e w5 (⟨_, Av, cv, rfl, hv, hb⟩ | ⟨_, rfl, hb⟩)
    · replace hB := hB.trans (hb.mono hB.size)
      clear hdr
      go_wp2_with fail
      refine (started_any _).mono ?_
      rintro e w6 ⟨rfl, hb6⟩
      go_wp2_with fail
      go_ret
      exact ⟨rfl, hB.trans (hb6.mono hB.size)⟩
    · replace hB := hB.trans (hb.mono hB.size)
      clear hdr
      go_wp2_with fail
      refine (started_any _).mono ?_
      rintro e w6 ⟨rfl, hb6⟩
      go_wp2_with fail
      go_ret
      exact ⟨rfl, hB.trans (hb6.mono hB.size)⟩
  | true =>
    have hz := (goodD_iff z).1 hgd
    have hN1 := hz.n1
    have hN2 := hz.n2
    have hcols := hz.cols
    have hmx : max z.n 0 = z.n := by omega
    have hbs : bndsD z = bndL z z.n.toNat := by unfold bndsD bndL; rw [hgd]; rfl
    have hpz0 : ∀ i, i < z.n.toNat → (ptZ z (partsZ l 0 z.g.length nb) (partsZ l z.g.length z.n.toNat nb) i).natAbs ≤ 2 ^ 31 * FB ∧ ((bndD z i).bad = false → fz (bndD z i).lo ≤ ptZ z (partsZ l 0 z.g.length nb) (partsZ l z.g.length z.n.toNat nb) i ∧ ptZ z (partsZ l 0 z.g.length nb) (partsZ l z.g.length z.n.toNat nb) i ≤ fz (bndD z i).hi) := fun i _ => ⟨pt_few hz (parts_unit _ _ _ _) (parts_unit _ _ _ _) i, fun h => by
      have h1 := bnd_in hz (parts_unit l 0 z.g.length nb) (parts_unit l z.g.length z.n.toNat nb) i h
      exact ⟨h1.1.2, h1.2.2⟩⟩
    have hp1 : ∀ W', Below w.heap.size w W' → Calls Tryz.prog 36 #[.slice Al l.length cl, .int .i64 0, .int .i64 (z.g.length : Int), .int .i64 nb] W' fun e w' => ∃ A' cap', e = .returned (.slice A' z.g.length cap') ∧ NLt (-16) 0 w' A' cap' (partsZ l 0 z.g.length nb) ∧ Below W'.heap.size W' w' := fun W' hb => parts_any W' Al cl l 0 z.g.length nb (hl0.at_.row.below (Nat.le_refl _) hb) (by decide) (by omega)
    have hp2 : ∀ W', Below w.heap.size w W' → Calls Tryz.prog 36 #[.slice Al l.length cl, .int .i64 (z.g.length : Int), .int .i64 z.n, .int .i64 nb] W' fun e w' => ∃ A' cap', e = .returned (.slice A' z.n.toNat cap') ∧ NLt (-16) 0 w' A' cap' (partsZ l z.g.length z.n.toNat nb) ∧ Below W'.heap.size W' w' := fun W' hb => by
      have h := parts_any W' Al cl l z.g.length z.n.toNat nb (hl0.at_.row.below (Nat.le_refl _) hb) (by omega) (by omega)
      rw [Int.toNat_of_nonneg (by omega)] at h
      exact h
    obtain ⟨rw_, hrw⟩ : ∃ r, rowD d z.n = r := ⟨_, rfl⟩
    obtain ⟨su, so, hsd⟩ : ∃ su so, supD z d = (su, so) := ⟨_, _, rfl⟩
    have HD0 := Lib.hid (show rw_ = true → (∀ u ∈ d, fexp u ≠ 2047) ∧ d.length = z.n.toNat from fun h => by
      subst h
      have h1 := (rowD_iff d z.n).1 hrw
      exact ⟨h1.1, by omega⟩)
    have HNO := Lib.hid (show rw_ = false → so = false from fun h => by
      subst h
      have h1 : supD z d = (0, false) := by unfold supD; rw [hgd, hrw]; rfl
      rw [hsd] at h1
      exact (Prod.mk.inj h1).2)
    have HSD0 := Lib.hid (show rw_ = true → roundS 1 (some (supZ z d)) = (su, so) from fun h => by
      subst h
      rw [← hsd]
      unfold supD
      rw [hgd, hrw]
      rfl)
    have HFAR := Lib.hid (far_sup z hd0.small)
    have HUP0 := Lib.hid (show rw_ = true → so = true → (fexp su ≠ 2047 ∧ su < B64) ∧ prodN (d.map fz) (pointZ z (partsZ l 0 z.g.length nb) (partsZ l z.g.length z.n.toNat nb) z.n.toNat) z.n.toNat ≤ fz su from fun hr h => by
      subst h
      have h1 := up_num (supZ z d)
      rw [HSD0.out hr] at h1
      exact ⟨h1, Int.le_trans (pt_sup hz hd0.small (parts_ex _ _ _ _) (parts_ex _ _ _ _) (parts_unit _ _ _ _) (parts_unit _ _ _ _)) (up_ge (HSD0.out hr))⟩)
    have HCC0 := Lib.hid (show rw_ = true → so = true → (prodN (d.map fz) (pointZ z (partsZ l 0 z.g.length nb) (partsZ l z.g.length z.n.toNat nb) z.n.toNat) z.n.toNat + -fz su).natAbs < W32 ^ 400 from fun hr h => cmpW2 (prodN_W hz (HD0.out hr).1 (parts_unit _ _ _ _) (parts_unit _ _ _ _) _ (Nat.le_refl _)) (HUP0.out hr h).1.1)
    go_enter Tryz.func5, Tryz.ntmps5
    go_wp2_with fail
    refine hof.mono ?_
    rintro e w1 ⟨v1, rfl, ⟨A0, B0, C0, D0, kA0, kB0, kC0, kD0, rfl, hu1⟩, hb⟩
    have g0 : ZB w1 w.heap.size _ _ _ _ _ _ := ZB.below hx hb
    have hB := hb1.trans (hb.mono hb1.size)
    have hre := Reals_any w1 _ z ⟨A0, B0, C0, D0, kA0, kB0, kC0, kD0, rfl, hu1⟩ hk
    unfold zval at hre ⊢
    clear hof hx hb hb1
    go_wp2_with fail
    refine hre.mono ?_
    rintro e w2 (⟨_, v2, rfl, ⟨A1, B1, C1, D1, kA1, kB1, kC1, kD1, rfl, hR⟩, hb⟩ | ⟨hg', rfl, hb⟩)
    rotate_left
    · rw [hgd] at hg'
      cases hg'
    unfold rval
    have hba := below_alloc w2 (.cells #[.int .i64 z.n, .slice A1 z.c.length kA1, .slice B1 z.ids.length kB1, .slice C1 z.g.length kC1, .slice D1 z.r.length kD1] 61)
    have gr := heap_alloc_new w2 (.cells #[.int .i64 z.n, .slice A1 z.c.length kA1, .slice B1 z.ids.length kB1, .slice C1 z.g.length kC1, .slice D1 z.r.length kD1] 61)
    replace g0 := (g0.below hb).below hba
    replace hB := (hB.trans (hb.mono hB.size)).trans (hba.mono (hB.trans (hb.mono hB.size)).size)
    replace hR := hR.below hba
    have hsu := support_any _ _ z Ad cd d ⟨A, B, C, D, kA, kB, kC, kD, rfl, hc.below hB⟩ hk (hd0.at_.row.below (Nat.le_refl _) hB) hd0.small (maxF hd0.most)
    unfold zval at hsu
    rw [hsd] at hsu
    obtain ⟨x0, x1, x2, x3, x4, x5⟩ := cells6 g0
    clear hre hb hba hu1
    go_wp2_with fail
    refine hsu.mono ?_
    rintro e w3 ⟨rfl, hb⟩
    replace gr := (hb.block _ (Array.getElem?_eq_some_iff.1 gr).1).trans gr
    replace g0 := g0.below hb
    replace hB := hB.trans (hb.mono hB.size)
    replace hR := hR.below hb
    have hbd := bounds_any _ _ z ⟨A, B, C, D, kA, kB, kC, kD, rfl, hc.below hB⟩ hk
    unfold zval at hbd
    rw [hbs] at hbd
    clear x0 x1 x2 x3 x4 x5 hsu hb
    obtain ⟨x0, x1, x2, x3, x4, x5⟩ := cells6 g0
    go_wp2_with fail
    refine hbd.mono ?_
    rintro e w4 ⟨As, cs, rfl, hS, hs1, hs2, hb⟩
    replace gr := (hb.block _ (Array.getElem?_eq_some_iff.1 gr).1).trans gr
    replace hB := hB.trans (hb.mono hB.size)
    replace hR := hR.below hb
    clear x0 x1 x2 x3 x4 x5 hbd hb g0
    obtain ⟨r0, r1, r2, r3, r4⟩ := cells5 gr
    have hdr := dirs_any w4 Ad d.length cd d z.n (hd0.at_.row.below (Nat.le_refl _) hB) hd0.small rfl (by omega) hd0.most
    rw [hrw] at hdr
    go_wp2_with fail
    refine hdr.mono ?_
    rintro e W ⟨Vv, rfl, hvv, hb⟩
    have HVV := Lib.hid hvv
    clear hvv
    replace gr := (hb.block _ (Array.getElem?_eq_some_iff.1 gr).1).trans gr
    replace hB := hB.trans (hb.mono hB.size)
    replace hR := hR.below hb
    have hS' : SpR W As (bndL z z.n.toNat) := hS.below hb
    rw [bndL_length] at hs1 ⊢
    clear hS hdr hb r0 r1 r2 r3 r4
    obtain ⟨r0, r1, r2, r3, r4⟩ := cells5 gr
    go_upto_region 9 with fail
    clear r0 r1 r2 r3 r4
    generalize w2.heap.size = b9 at *
    have hS : ∀ W', Below W.heap.size W W' → (fun w' => w'.cell? ⟨b9, 0, none⟩ = some (.int .i64 z.n) ∧ w'.cell? ⟨b9, 1, none⟩ = some (.slice A1 z.c.length kA1) ∧ w'.cell? ⟨b9, 2, none⟩ = some (.slice B1 z.ids.length kB1) ∧ w'.cell? ⟨b9, 3, none⟩ = some (.slice C1 z.g.length kC1) ∧ w'.cell? ⟨b9, 4, none⟩ = some (.slice D1 z.r.length kD1)) W' := fun W' hb => cells5 ((hb.block _ (Array.getElem?_eq_some_iff.1 gr).1).trans gr)
    have hd := (Below.refl W.heap.size W).drew
    refine late_begin (fun w' => w'.cell? ⟨b9, 0, none⟩ = some (.int .i64 z.n) ∧ w'.cell? ⟨b9, 1, none⟩ = some (.slice A1 z.c.length kA1) ∧ w'.cell? ⟨b9, 2, none⟩ = some (.slice B1 z.ids.length kB1) ∧ w'.cell? ⟨b9, 3, none⟩ = some (.slice C1 z.g.length kC1) ∧ w'.cell? ⟨b9, 4, none⟩ = some (.slice D1 z.r.length kD1)) [] (by kernel_rfl) ?_
    refine late_take (i := 0) (v := ?_) (some 71) rfl rfl (by kernel_rfl) (by kernel_rfl) (by kernel_rfl) (by kernel_rfl) (fun _ _ _ h => h) (by kernel_rfl) (hS _ hd) ?_ ?_
    rotate_left
    · (intro w hSw; (try dsimp only at hSw); go_simp; try rfl)
    try simp only [Act.put, List.setIfInBounds_toArray, List.set_cons_zero, List.set_cons_succ]
    refine late_take (i := 1) (v := ?_) (some 72) rfl rfl (by kernel_rfl) (by kernel_rfl) (by kernel_rfl) (by kernel_rfl) (fun _ _ _ h => h) (by kernel_rfl) (hS _ hd) ?_ ?_
    rotate_left
    · (intro w hSw; (try dsimp only at hSw); go_simp; try rfl)
    try simp only [Act.put, List.setIfInBounds_toArray, List.set_cons_zero, List.set_cons_succ]
    refine late_take (i := 2) (v := ?_) (some 73) rfl rfl (by kernel_rfl) (by kernel_rfl) (by kernel_rfl) (by kernel_rfl) (fun _ _ _ h => h) (by kernel_rfl) (hS _ hd) ?_ ?_
    rotate_left
    · (intro w hSw; (try dsimp only at hSw); go_simp; try rfl)
    try simp only [Act.put, List.setIfInBounds_toArray, List.set_cons_zero, List.set_cons_succ]
    refine late_take (i := 3) (v := ?_) (some 74) rfl rfl (by kernel_rfl) (by kernel_rfl) (by kernel_rfl) (by kernel_rfl) (fun _ _ _ h => h) (by kernel_rfl) (hS _ hd) ?_ ?_
    rotate_left
    · (intro w hSw; (try dsimp only at hSw); go_simp; try rfl)
    try simp only [Act.put, List.setIfInBounds_toArray, List.set_cons_zero, List.set_cons_succ]
    refine late_take (i := 4) (v := ?_) (some 75) rfl rfl (by kernel_rfl) (by kernel_rfl) (by kernel_rfl) (by kernel_rfl) (fun _ _ _ h => h) (by kernel_rfl) (hS _ hd) ?_ ?_
    rotate_left
    · (intro w hSw; (try dsimp only at hSw); go_simp; try rfl)
    try simp only [Act.put, List.setIfInBounds_toArray, List.set_cons_zero, List.set_cons_succ]
    refine late_take (i := 5) (v := ?_) (some 76) rfl rfl (by kernel_rfl) (by kernel_rfl) (by kernel_rfl) (by kernel_rfl) (fun _ _ _ h => h) (by kernel_rfl) (hS _ hd) ?_ ?_
    rotate_left
    · (intro w hSw; (try dsimp only at hSw); go_simp; try rfl)
    try simp only [Act.put, List.setIfInBounds_toArray, List.set_cons_zero, List.set_cons_succ]
    refine late_take (i := 7) (v := ?_) (some 78) rfl rfl (by kernel_rfl) (by kernel_rfl) (by kernel_rfl) (by kernel_rfl) (fun _ _ _ h => h) (by kernel_rfl) (hS _ hd) ?_ ?_
    rotate_left
    · (intro w hSw; (try dsimp only at hSw); go_simp; try rfl)
    try simp only [Act.put, List.setIfInBounds_toArray, List.set_cons_zero, List.set_cons_succ]
    refine late_take (i := 8) (v := ?_) (some 79) rfl rfl (by kernel_rfl) (by kernel_rfl) (by kernel_rfl) (by kernel_rfl) (fun _ _ _ h => h) (by kernel_rfl) (hS _ hd) ?_ ?_
    rotate_left
    · (intro w hSw; (try dsimp only at hSw); go_simp; try rfl)
    try simp only [Act.put, List.setIfInBounds_toArray, List.set_cons_zero, List.set_cons_succ]
    refine late_take (i := 9) (v := ?_) (some 80) rfl rfl (by kernel_rfl) (by kernel_rfl) (by kernel_rfl) (by kernel_rfl) (fun _ _ _ h => h) (by kernel_rfl) (hS _ hd) ?_ ?_
    rotate_left
    · (intro w hSw; (try dsimp only at hSw); go_simp; try rfl)
    try simp only [Act.put, List.setIfInBounds_toArray, List.set_cons_zero, List.set_cons_succ]
    refine late_take (i := 10) (v := ?_) (some 81) rfl rfl (by kernel_rfl) (by kernel_rfl) (by kernel_rfl) (by kernel_rfl) (fun _ _ _ h => h) (by kernel_rfl) (hS _ hd) ?_ ?_
    rotate_left
    · (intro w hSw; (try dsimp only at hSw); go_simp; try rfl)
    try simp only [Act.put, List.setIfInBounds_toArray, List.set_cons_zero, List.set_cons_succ]
    refine late_take (i := 11) (v := ?_) (some 82) rfl rfl (by kernel_rfl) (by kernel_rfl) (by kernel_rfl) (by kernel_rfl) (fun _ _ _ h => h) (by kernel_rfl) (hS _ hd) ?_ ?_
    rotate_left
    · (intro w hSw; (try dsimp only at hSw); go_simp; try rfl)
    try simp only [Act.put, List.setIfInBounds_toArray, List.set_cons_zero, List.set_cons_succ]
    refine late_take (i := 12) (v := ?_) (some 83) rfl rfl (by kernel_rfl) (by kernel_rfl) (by kernel_rfl) (by kernel_rfl) (fun _ _ _ h => h) (by kernel_rfl) (hS _ hd) ?_ ?_
    rotate_left
    · (intro w hSw; (try dsimp only at hSw); go_simp; try rfl)
    try simp only [Act.put, List.setIfInBounds_toArray, List.set_cons_zero, List.set_cons_succ]
    refine late_take (i := 13) (v := ?_) (some 84) rfl rfl (by kernel_rfl) (by kernel_rfl) (by kernel_rfl) (by kernel_rfl) (fun _ _ _ h => h) (by kernel_rfl) (hS _ hd) ?_ ?_
    rotate_left
    · (intro w hSw; (try dsimp only at hSw); go_simp; try rfl)
    try simp only [Act.put, List.setIfInBounds_toArray, List.set_cons_zero, List.set_cons_succ]
    refine late_one (i := 6) rfl (by kernel_rfl) ?_
    intro K hK
    go_simp
    refine (hp1 _ (hB.trans (hd.mono hB.size))).mono ?_
    rintro e w6 ⟨Ae, ke, rfl, hE, hb6⟩
    have h6 := hd.trans (hb6.mono hd.size)
    try show K _ _
    refine hK.out _ _ (Or.inr (hS _ h6)) ?_
    clear hK K
    try simp only [Act.put, List.setIfInBounds_toArray, List.set_cons_zero, List.set_cons_succ]
    refine late_one (i := 14) rfl (by kernel_rfl) ?_
    intro K hK
    go_simp
    refine (hp2 _ (hB.trans (h6.mono hB.size))).mono ?_
    rintro e w7 ⟨Ar, kr, rfl, hF, hb7⟩
    have h7 := h6.trans (hb7.mono h6.size)
    try show K _ _
    refine hK.out _ _ (Or.inr (hS _ h7)) ?_
    clear hK K
    try simp only [Act.put, List.setIfInBounds_toArray, List.set_cons_zero, List.set_cons_succ]
    refine late_one (i := 15) rfl (by kernel_rfl) ?_
    intro K hK
    go_simp
    have hpt := Point_any _ A1 B1 C1 D1 Ae Ar kA1 kB1 kC1 kD1 ke kr z.g.length z.n.toNat z _ _ (hR.below h7) hz (hE.below hb7) hF (partsZ_length _ _ _ _) (partsZ_length _ _ _ _) (Nat.le_refl _) (by omega) (parts_unit _ _ _ _) (parts_unit _ _ _ _) (by omega) (by omega)
    unfold rval at hpt
    refine hpt.mono ?_
    rintro e w8 ⟨Ap, kp, rfl, hP, hb8⟩
    have h8 := h7.trans (hb8.mono h7.size)
    try show K _ _
    refine hK.out _ _ (Or.inr (hS _ h8)) ?_
    clear hK K
    try simp only [Act.put, List.setIfInBounds_toArray, List.set_cons_zero, List.set_cons_succ]
    refine late_take (i := 16) (v := ?_) (some 16) rfl rfl (by kernel_rfl) (by kernel_rfl) (by kernel_rfl) (by kernel_rfl) (fun _ _ _ h => h) (by kernel_rfl) (hS _ h8) ?_ ?_
    rotate_left
    · (intro w hSw; (try dsimp only at hSw); go_simp; try rfl)
    try simp only [Act.put, List.setIfInBounds_toArray, List.set_cons_zero, List.set_cons_succ]
    refine late_done (by kernel_rfl) ?_ _
    clear hp1 hp2 hE hF hb6 hb7 hb8 h6 h7 hpt hS hd
    have HPZ := Lib.hid hpz0
    clear hpz0
    go_wp2_with fail
    go_loopw [17] (fun kk wr => ∃ i : Nat, i ≤ z.n.toNat ∧ kk = .int .i64 (i : Nat) ∧ Below w8.heap.size w8 wr) (fun kk _ => z.n.toNat - (intOf kk).toNat)
    case atStart => exact ⟨0, Nat.zero_le _, rfl, Below.refl _ _⟩
    case round =>
      obtain ⟨i, hi, rfl, hBr⟩ := hrel
      have hBW := h8.trans (hBr.mono h8.size)
      have x0 := (cells5 ((hBW.block _ (Array.getElem?_eq_some_iff.1 gr).1).trans gr)).1
      by_cases hlt : (i : Int) < z.n
      · obtain ⟨bp, op, xp, rfl, hbp, p1, p2, p3, hxp⟩ := (hP.below hBr).row i _ (pointZ_at z _ _ _ i (by omega))
        have hpz := HPZ.out i (by omega)
        generalize ptZ z (partsZ l 0 z.g.length nb) (partsZ l z.g.length z.n.toNat nb) i = pz at *
        have hin : (i : Int) < max z.n 0 := by omega
        have hBf : ∀ W', Below wr.heap.size wr W' → Below w8.heap.size w8 W' := fun W' hb => hBr.trans (hb.mono hBr.size)
        obtain ⟨gs, rfl, hgs, c0, c1, c2⟩ := (hS'.below hBW) i (bndD z i) (by unfold bndL; rw [List.getElem?_map, List.getElem?_range (by omega)]; rfl)
        obtain ⟨hlo, hhi⟩ := bnd_bits z i
        go_wp2_with fail
        refine (bits_any _ _).mono ?_
        rintro e _ ⟨rfl, rfl⟩
        go_wp2_with fail
        refine (ofF _ hlo.1 _ hlo.2).mono ?_
        rintro e r1 ⟨xl, rfl, hxl, hb1⟩
        have ha1 := below_alloc r1 (.cells #[.bool xl.neg, .slice xl.A xl.n xl.cap, .int .i64 xl.E] 70)
        have hnl : NumB (r1.alloc (.cells #[.bool xl.neg, .slice xl.A xl.n xl.cap, .int .i64 xl.E] 70)) r1.heap.size xl := heap_alloc_new r1 _
        replace hxl := hxl.below ha1
        replace hB3 := hb1.trans (ha1.mono hb1.size)
        have c1' := (hB3.cell (p := ⟨gs, i * 3 + 1, none⟩) hgs).trans c1
        have hbl := hb1.size
        clear hb1 ha1
        go_upto_region 14 with fail
        generalize r1.alloc (.cells #[.bool xl.neg, .slice xl.A xl.n xl.cap, .int .i64 xl.E] 70) = W4 at *
        generalize r1.heap.size = bl at *
        clear c0 c1
        go_wp2_with fail
        refine (bits_any _ _).mono ?_
        rintro e _ ⟨rfl, rfl⟩
        go_wp2_with fail
        refine (ofF _ hhi.1 _ hhi.2).mono ?_
        rintro e r2 ⟨xh, rfl, hxh, hb1⟩
        have ha1 := below_alloc r2 (.cells #[.bool xh.neg, .slice xh.A xh.n xh.cap, .int .i64 xh.E] 70)
        have hnh : NumB (r2.alloc (.cells #[.bool xh.neg, .slice xh.A xh.n xh.cap, .int .i64 xh.E] 70)) r2.heap.size xh := heap_alloc_new r2 _
        replace hxh := hxh.below ha1
        replace hb1 := hb1.trans (ha1.mono hb1.size)
        replace hnl := hnl.below hb1
        replace hxl := hxl.below hb1
        have hB5 := hB3.trans (hb1.mono hB3.size)
        replace hxp := hxp.below hB5
        clear c1' ha1 hB3 hb1
        go_upto_region 15 with fail
        generalize r2.alloc (.cells #[.bool xh.neg, .slice xh.A xh.n xh.cap, .int .i64 xh.E] 70) = W5 at *
        generalize r2.heap.size = bh at *
        have hcl := cmpW hpz.1 hlo.1
        have hch := cmpW hpz.1 hhi.1
        cases hbad : (bndD z i).bad with
        | true =>
          rw [hbad] at c2
          have hS : ∀ W', Below W5.heap.size W5 W' → (fun w' => w'.cell? ⟨gs, i * 3 + 2, none⟩ = some (.bool true) ∧ (w'.cell? ⟨bp, op + i * 3, none⟩ = some (.bool xp.neg) ∧ w'.cell? ⟨bp, op + i * 3 + 1, none⟩ = some (.slice xp.A xp.n xp.cap) ∧ w'.cell? ⟨bp, op + i * 3 + 2, none⟩ = some (.int .i64 xp.E)) ∧ (w'.cell? ⟨bl, 0, none⟩ = some (.bool xl.neg) ∧ w'.cell? ⟨bl, 1, none⟩ = some (.slice xl.A xl.n xl.cap) ∧ w'.cell? ⟨bl, 2, none⟩ = some (.int .i64 xl.E)) ∧ (w'.cell? ⟨bh, 0, none⟩ = some (.bool xh.neg) ∧ w'.cell? ⟨bh, 1, none⟩ = some (.slice xh.A xh.n xh.cap) ∧ w'.cell? ⟨bh, 2, none⟩ = some (.int .i64 xh.E))) W' := fun W' hb => by
            have hq := hB5.trans (hb.mono hB5.size)
            exact ⟨(hq.cell (p := ⟨gs, i * 3 + 2, none⟩) hgs).trans c2, ⟨(hq.cell (p := ⟨bp, op + i * 3, none⟩) hbp).trans p1, (hq.cell (p := ⟨bp, op + i * 3 + 1, none⟩) hbp).trans p2, (hq.cell (p := ⟨bp, op + i * 3 + 2, none⟩) hbp).trans p3⟩, ((hnl.below hb).cells), ((hnh.below hb).cells)⟩
          have hd := (Below.refl W5.heap.size W5).drew
          refine late_begin (fun w' => w'.cell? ⟨gs, i * 3 + 2, none⟩ = some (.bool true) ∧ (w'.cell? ⟨bp, op + i * 3, none⟩ = some (.bool xp.neg) ∧ w'.cell? ⟨bp, op + i * 3 + 1, none⟩ = some (.slice xp.A xp.n xp.cap) ∧ w'.cell? ⟨bp, op + i * 3 + 2, none⟩ = some (.int .i64 xp.E)) ∧ (w'.cell? ⟨bl, 0, none⟩ = some (.bool xl.neg) ∧ w'.cell? ⟨bl, 1, none⟩ = some (.slice xl.A xl.n xl.cap) ∧ w'.cell? ⟨bl, 2, none⟩ = some (.int .i64 xl.E)) ∧ (w'.cell? ⟨bh, 0, none⟩ = some (.bool xh.neg) ∧ w'.cell? ⟨bh, 1, none⟩ = some (.slice xh.A xh.n xh.cap) ∧ w'.cell? ⟨bh, 2, none⟩ = some (.int .i64 xh.E))) [] (by kernel_rfl) ?_
          refine late_take (i := 0) (v := ?_) (some 113) rfl rfl (by kernel_rfl) (by kernel_rfl) (by kernel_rfl) (by kernel_rfl) (fun _ _ _ h => h) (by kernel_rfl) (hS _ hd) ?_ ?_
          rotate_left
          · (intro w hSw; (try dsimp only at hSw); go_simp; try rfl)
          try simp only [Act.put, List.setIfInBounds_toArray, List.set_cons_zero, List.set_cons_succ]
          refine late_take (i := 1) (v := ?_) (some 114) rfl rfl (by kernel_rfl) (by kernel_rfl) (by kernel_rfl) (by kernel_rfl) (fun _ _ _ h => h) (by kernel_rfl) (hS _ hd) ?_ ?_
          rotate_left
          · (intro w hSw; (try dsimp only at hSw); go_simp; try rfl)
          try simp only [Act.put, List.setIfInBounds_toArray, List.set_cons_zero, List.set_cons_succ]
          refine late_take (i := 2) (v := ?_) (some 115) rfl rfl (by kernel_rfl) (by kernel_rfl) (by kernel_rfl) (by kernel_rfl) (fun _ _ _ h => h) (by kernel_rfl) (hS _ hd) ?_ ?_
          rotate_left
          · (intro w hSw; (try dsimp only at hSw); go_simp; try rfl)
          try simp only [Act.put, List.setIfInBounds_toArray, List.set_cons_zero, List.set_cons_succ]
          refine late_take (i := 3) (v := ?_) (some 116) rfl rfl (by kernel_rfl) (by kernel_rfl) (by kernel_rfl) (by kernel_rfl) (fun _ _ _ h => h) (by kernel_rfl) (hS _ hd) ?_ ?_
          rotate_left
          · (intro w hSw; (try dsimp only at hSw); go_simp; try rfl)
          try simp only [Act.put, List.setIfInBounds_toArray, List.set_cons_zero, List.set_cons_succ]
          refine late_take (i := 4) (v := ?_) (some 117) rfl rfl (by kernel_rfl) (by kernel_rfl) (by kernel_rfl) (by kernel_rfl) (fun _ _ _ h => h) (by kernel_rfl) (hS _ hd) ?_ ?_
          rotate_left
          · (intro w hSw; (try dsimp only at hSw); go_simp; try rfl)
          try simp only [Act.put, List.setIfInBounds_toArray, List.set_cons_zero, List.set_cons_succ]
          refine late_take (i := 5) (v := ?_) (some 118) rfl rfl (by kernel_rfl) (by kernel_rfl) (by kernel_rfl) (by kernel_rfl) (fun _ _ _ h => h) (by kernel_rfl) (hS _ hd) ?_ ?_
          rotate_left
          · (intro w hSw; (try dsimp only at hSw); go_simp; try rfl)
          try simp only [Act.put, List.setIfInBounds_toArray, List.set_cons_zero, List.set_cons_succ]
          refine late_take (i := 6) (v := ?_) (some 119) rfl rfl (by kernel_rfl) (by kernel_rfl) (by kernel_rfl) (by kernel_rfl) (fun _ _ _ h => h) (by kernel_rfl) (hS _ hd) ?_ ?_
          rotate_left
          · (intro w hSw; (try dsimp only at hSw); go_simp; try rfl)
          try simp only [Act.put, List.setIfInBounds_toArray, List.set_cons_zero, List.set_cons_succ]
          refine late_skip (i := 7) (some 120) rfl rfl (by kernel_rfl) (by kernel_rfl) (by kernel_rfl) (by kernel_rfl) (fun _ _ _ h => h) (by kernel_rfl) (hS _ hd) ?_
          try simp only [Act.put, List.setIfInBounds_toArray, List.set_cons_zero, List.set_cons_succ]
          refine late_skip (i := 8) (some 121) rfl rfl (by kernel_rfl) (by kernel_rfl) (by kernel_rfl) (by kernel_rfl) (fun _ _ _ h => h) (by kernel_rfl) (hS _ hd) ?_
          try simp only [Act.put, List.setIfInBounds_toArray, List.set_cons_zero, List.set_cons_succ]
          refine late_skip (i := 9) (some 122) rfl rfl (by kernel_rfl) (by kernel_rfl) (by kernel_rfl) (by kernel_rfl) (fun _ _ _ h => h) (by kernel_rfl) (hS _ hd) ?_
          try simp only [Act.put, List.setIfInBounds_toArray, List.set_cons_zero, List.set_cons_succ]
          refine late_skip (i := 10) (some 123) rfl rfl (by kernel_rfl) (by kernel_rfl) (by kernel_rfl) (by kernel_rfl) (fun _ _ _ h => h) (by kernel_rfl) (hS _ hd) ?_
          try simp only [Act.put, List.setIfInBounds_toArray, List.set_cons_zero, List.set_cons_succ]
          refine late_skip (i := 11) (some 124) rfl rfl (by kernel_rfl) (by kernel_rfl) (by kernel_rfl) (by kernel_rfl) (fun _ _ _ h => h) (by kernel_rfl) (hS _ hd) ?_
          try simp only [Act.put, List.setIfInBounds_toArray, List.set_cons_zero, List.set_cons_succ]
          refine late_skip (i := 12) (some 125) rfl rfl (by kernel_rfl) (by kernel_rfl) (by kernel_rfl) (by kernel_rfl) (fun _ _ _ h => h) (by kernel_rfl) (hS _ hd) ?_
          try simp only [Act.put, List.setIfInBounds_toArray, List.set_cons_zero, List.set_cons_succ]
          refine late_skip (i := 13) (some 126) rfl rfl (by kernel_rfl) (by kernel_rfl) (by kernel_rfl) (by kernel_rfl) (fun _ _ _ h => h) (by kernel_rfl) (hS _ hd) ?_
          try simp only [Act.put, List.setIfInBounds_toArray, List.set_cons_zero, List.set_cons_succ]
          refine late_skip (i := 14) (some 127) rfl rfl (by kernel_rfl) (by kernel_rfl) (by kernel_rfl) (by kernel_rfl) (fun _ _ _ h => h) (by kernel_rfl) (hS _ hd) ?_
          try simp only [Act.put, List.setIfInBounds_toArray, List.set_cons_zero, List.set_cons_succ]
          refine late_skip (i := 15) (some 128) rfl rfl (by kernel_rfl) (by kernel_rfl) (by kernel_rfl) (by kernel_rfl) (fun _ _ _ h => h) (by kernel_rfl) (hS _ hd) ?_
          try simp only [Act.put, List.setIfInBounds_toArray, List.set_cons_zero, List.set_cons_succ]
          refine late_skip (i := 16) (some 129) rfl rfl (by kernel_rfl) (by kernel_rfl) (by kernel_rfl) (by kernel_rfl) (fun _ _ _ h => h) (by kernel_rfl) (hS _ hd) ?_
          try simp only [Act.put, List.setIfInBounds_toArray, List.set_cons_zero, List.set_cons_succ]
          refine late_skip (i := 17) (some 130) rfl rfl (by kernel_rfl) (by kernel_rfl) (by kernel_rfl) (by kernel_rfl) (fun _ _ _ h => h) (by kernel_rfl) (hS _ hd) ?_
          try simp only [Act.put, List.setIfInBounds_toArray, List.set_cons_zero, List.set_cons_succ]
          refine late_skip (i := 18) (some 131) rfl rfl (by kernel_rfl) (by kernel_rfl) (by kernel_rfl) (by kernel_rfl) (fun _ _ _ h => h) (by kernel_rfl) (hS _ hd) ?_
          try simp only [Act.put, List.setIfInBounds_toArray, List.set_cons_zero, List.set_cons_succ]
          refine late_skip (i := 19) (some 132) rfl rfl (by kernel_rfl) (by kernel_rfl) (by kernel_rfl) (by kernel_rfl) (fun _ _ _ h => h) (by kernel_rfl) (hS _ hd) ?_
          try simp only [Act.put, List.setIfInBounds_toArray, List.set_cons_zero, List.set_cons_succ]
          refine late_skip (i := 20) (some 133) rfl rfl (by kernel_rfl) (by kernel_rfl) (by kernel_rfl) (by kernel_rfl) (fun _ _ _ h => h) (by kernel_rfl) (hS _ hd) ?_
          try simp only [Act.put, List.setIfInBounds_toArray, List.set_cons_zero, List.set_cons_succ]
          refine late_skip (i := 21) (some 134) rfl rfl (by kernel_rfl) (by kernel_rfl) (by kernel_rfl) (by kernel_rfl) (fun _ _ _ h => h) (by kernel_rfl) (hS _ hd) ?_
          try simp only [Act.put, List.setIfInBounds_toArray, List.set_cons_zero, List.set_cons_succ]
          refine late_skip (i := 22) (some 135) rfl rfl (by kernel_rfl) (by kernel_rfl) (by kernel_rfl) (by kernel_rfl) (fun _ _ _ h => h) (by kernel_rfl) (hS _ hd) ?_
          try simp only [Act.put, List.setIfInBounds_toArray, List.set_cons_zero, List.set_cons_succ]
          refine late_skip (i := 23) (some 136) rfl rfl (by kernel_rfl) (by kernel_rfl) (by kernel_rfl) (by kernel_rfl) (fun _ _ _ h => h) (by kernel_rfl) (hS _ hd) ?_
          try simp only [Act.put, List.setIfInBounds_toArray, List.set_cons_zero, List.set_cons_succ]
          refine late_skip (i := 24) (some 137) rfl rfl (by kernel_rfl) (by kernel_rfl) (by kernel_rfl) (by kernel_rfl) (fun _ _ _ h => h) (by kernel_rfl) (hS _ hd) ?_
          try simp only [Act.put, List.setIfInBounds_toArray, List.set_cons_zero, List.set_cons_succ]
          refine late_skip (i := 25) (some 138) rfl rfl (by kernel_rfl) (by kernel_rfl) (by kernel_rfl) (by kernel_rfl) (fun _ _ _ h => h) (by kernel_rfl) (hS _ hd) ?_
          try simp only [Act.put, List.setIfInBounds_toArray, List.set_cons_zero, List.set_cons_succ]
          refine late_skip (i := 26) (some 139) rfl rfl (by kernel_rfl) (by kernel_rfl) (by kernel_rfl) (by kernel_rfl) (fun _ _ _ h => h) (by kernel_rfl) (hS _ hd) ?_
          try simp only [Act.put, List.setIfInBounds_toArray, List.set_cons_zero, List.set_cons_succ]
          refine late_skip (i := 27) (some 140) rfl rfl (by kernel_rfl) (by kernel_rfl) (by kernel_rfl) (by kernel_rfl) (fun _ _ _ h => h) (by kernel_rfl) (hS _ hd) ?_
          try simp only [Act.put, List.setIfInBounds_toArray, List.set_cons_zero, List.set_cons_succ]
          refine late_skip (i := 28) (some 141) rfl rfl (by kernel_rfl) (by kernel_rfl) (by kernel_rfl) (by kernel_rfl) (fun _ _ _ h => h) (by kernel_rfl) (hS _ hd) ?_
          try simp only [Act.put, List.setIfInBounds_toArray, List.set_cons_zero, List.set_cons_succ]
          refine late_skip (i := 29) (some 142) rfl rfl (by kernel_rfl) (by kernel_rfl) (by kernel_rfl) (by kernel_rfl) (fun _ _ _ h => h) (by kernel_rfl) (hS _ hd) ?_
          try simp only [Act.put, List.setIfInBounds_toArray, List.set_cons_zero, List.set_cons_succ]
          refine late_skip (i := 30) (some 143) rfl rfl (by kernel_rfl) (by kernel_rfl) (by kernel_rfl) (by kernel_rfl) (fun _ _ _ h => h) (by kernel_rfl) (hS _ hd) ?_
          try simp only [Act.put, List.setIfInBounds_toArray, List.set_cons_zero, List.set_cons_succ]
          refine late_take (i := 31) (v := ?_) (some 144) rfl rfl (by kernel_rfl) (by kernel_rfl) (by kernel_rfl) (by kernel_rfl) (fun _ _ _ h => h) (by kernel_rfl) (hS _ hd) ?_ ?_
          rotate_left
          · (intro w hSw; (try dsimp only at hSw); go_simp; try rfl)
          try simp only [Act.put, List.setIfInBounds_toArray, List.set_cons_zero, List.set_cons_succ]
          refine late_done (by kernel_rfl) ?_ _
          have hB9 := hBf _ <| hB5.trans (hd.mono hB5.size)
          go_wp2_with fail
          go_roundw
          case rel => exact ⟨i + 1, by omega, by go_num, hB9⟩
          case measure => simp [intOf]; omega
        | false =>
          rw [hbad] at c2
          obtain ⟨hin1, hin2⟩ := hpz.2 hbad
          have hs1' : 0 ≤ pz + -fz (bndD z i).lo := by omega
          have hs2' : pz + -fz (bndD z i).hi ≤ 0 := by omega
          have hS : ∀ W', Below W5.heap.size W5 W' → (fun w' => w'.cell? ⟨gs, i * 3 + 2, none⟩ = some (.bool false) ∧ (w'.cell? ⟨bp, op + i * 3, none⟩ = some (.bool xp.neg) ∧ w'.cell? ⟨bp, op + i * 3 + 1, none⟩ = some (.slice xp.A xp.n xp.cap) ∧ w'.cell? ⟨bp, op + i * 3 + 2, none⟩ = some (.int .i64 xp.E)) ∧ (w'.cell? ⟨bl, 0, none⟩ = some (.bool xl.neg) ∧ w'.cell? ⟨bl, 1, none⟩ = some (.slice xl.A xl.n xl.cap) ∧ w'.cell? ⟨bl, 2, none⟩ = some (.int .i64 xl.E)) ∧ (w'.cell? ⟨bh, 0, none⟩ = some (.bool xh.neg) ∧ w'.cell? ⟨bh, 1, none⟩ = some (.slice xh.A xh.n xh.cap) ∧ w'.cell? ⟨bh, 2, none⟩ = some (.int .i64 xh.E))) W' := fun W' hb => by
            have hq := hB5.trans (hb.mono hB5.size)
            exact ⟨(hq.cell (p := ⟨gs, i * 3 + 2, none⟩) hgs).trans c2, ⟨(hq.cell (p := ⟨bp, op + i * 3, none⟩) hbp).trans p1, (hq.cell (p := ⟨bp, op + i * 3 + 1, none⟩) hbp).trans p2, (hq.cell (p := ⟨bp, op + i * 3 + 2, none⟩) hbp).trans p3⟩, ((hnl.below hb).cells), ((hnh.below hb).cells)⟩
          have hd := (Below.refl W5.heap.size W5).drew
          refine late_begin (fun w' => w'.cell? ⟨gs, i * 3 + 2, none⟩ = some (.bool false) ∧ (w'.cell? ⟨bp, op + i * 3, none⟩ = some (.bool xp.neg) ∧ w'.cell? ⟨bp, op + i * 3 + 1, none⟩ = some (.slice xp.A xp.n xp.cap) ∧ w'.cell? ⟨bp, op + i * 3 + 2, none⟩ = some (.int .i64 xp.E)) ∧ (w'.cell? ⟨bl, 0, none⟩ = some (.bool xl.neg) ∧ w'.cell? ⟨bl, 1, none⟩ = some (.slice xl.A xl.n xl.cap) ∧ w'.cell? ⟨bl, 2, none⟩ = some (.int .i64 xl.E)) ∧ (w'.cell? ⟨bh, 0, none⟩ = some (.bool xh.neg) ∧ w'.cell? ⟨bh, 1, none⟩ = some (.slice xh.A xh.n xh.cap) ∧ w'.cell? ⟨bh, 2, none⟩ = some (.int .i64 xh.E))) [] (by kernel_rfl) ?_
          refine late_take (i := 0) (v := ?_) (some 113) rfl rfl (by kernel_rfl) (by kernel_rfl) (by kernel_rfl) (by kernel_rfl) (fun _ _ _ h => h) (by kernel_rfl) (hS _ hd) ?_ ?_
          rotate_left
          · (intro w hSw; (try dsimp only at hSw); go_simp; try rfl)
          try simp only [Act.put, List.setIfInBounds_toArray, List.set_cons_zero, List.set_cons_succ]
          refine late_take (i := 1) (v := ?_) (some 114) rfl rfl (by kernel_rfl) (by kernel_rfl) (by kernel_rfl) (by kernel_rfl) (fun _ _ _ h => h) (by kernel_rfl) (hS _ hd) ?_ ?_
          rotate_left
          · (intro w hSw; (try dsimp only at hSw); go_simp; try rfl)
          try simp only [Act.put, List.setIfInBounds_toArray, List.set_cons_zero, List.set_cons_succ]
          refine late_take (i := 2) (v := ?_) (some 115) rfl rfl (by kernel_rfl) (by kernel_rfl) (by kernel_rfl) (by kernel_rfl) (fun _ _ _ h => h) (by kernel_rfl) (hS _ hd) ?_ ?_
          rotate_left
          · (intro w hSw; (try dsimp only at hSw); go_simp; try rfl)
          try simp only [Act.put, List.setIfInBounds_toArray, List.set_cons_zero, List.set_cons_succ]
          refine late_take (i := 3) (v := ?_) (some 116) rfl rfl (by kernel_rfl) (by kernel_rfl) (by kernel_rfl) (by kernel_rfl) (fun _ _ _ h => h) (by kernel_rfl) (hS _ hd) ?_ ?_
          rotate_left
          · (intro w hSw; (try dsimp only at hSw); go_simp; try rfl)
          try simp only [Act.put, List.setIfInBounds_toArray, List.set_cons_zero, List.set_cons_succ]
          refine late_take (i := 4) (v := ?_) (some 117) rfl rfl (by kernel_rfl) (by kernel_rfl) (by kernel_rfl) (by kernel_rfl) (fun _ _ _ h => h) (by kernel_rfl) (hS _ hd) ?_ ?_
          rotate_left
          · (intro w hSw; (try dsimp only at hSw); go_simp; try rfl)
          try simp only [Act.put, List.setIfInBounds_toArray, List.set_cons_zero, List.set_cons_succ]
          refine late_take (i := 5) (v := ?_) (some 118) rfl rfl (by kernel_rfl) (by kernel_rfl) (by kernel_rfl) (by kernel_rfl) (fun _ _ _ h => h) (by kernel_rfl) (hS _ hd) ?_ ?_
          rotate_left
          · (intro w hSw; (try dsimp only at hSw); go_simp; try rfl)
          try simp only [Act.put, List.setIfInBounds_toArray, List.set_cons_zero, List.set_cons_succ]
          refine late_take (i := 6) (v := ?_) (some 119) rfl rfl (by kernel_rfl) (by kernel_rfl) (by kernel_rfl) (by kernel_rfl) (fun _ _ _ h => h) (by kernel_rfl) (hS _ hd) ?_ ?_
          rotate_left
          · (intro w hSw; (try dsimp only at hSw); go_simp; try rfl)
          try simp only [Act.put, List.setIfInBounds_toArray, List.set_cons_zero, List.set_cons_succ]
          refine late_take (i := 7) (v := ?_) (some 120) rfl rfl (by kernel_rfl) (by kernel_rfl) (by kernel_rfl) (by kernel_rfl) (fun _ _ _ h => h) (by kernel_rfl) (hS _ hd) ?_ ?_
          rotate_left
          · (intro w hSw; (try dsimp only at hSw); go_simp; try rfl)
          try simp only [Act.put, List.setIfInBounds_toArray, List.set_cons_zero, List.set_cons_succ]
          refine late_take (i := 8) (v := ?_) (some 121) rfl rfl (by kernel_rfl) (by kernel_rfl) (by kernel_rfl) (by kernel_rfl) (fun _ _ _ h => h) (by kernel_rfl) (hS _ hd) ?_ ?_
          rotate_left
          · (intro w hSw; (try dsimp only at hSw); go_simp; try rfl)
          try simp only [Act.put, List.setIfInBounds_toArray, List.set_cons_zero, List.set_cons_succ]
          refine late_take (i := 9) (v := ?_) (some 122) rfl rfl (by kernel_rfl) (by kernel_rfl) (by kernel_rfl) (by kernel_rfl) (fun _ _ _ h => h) (by kernel_rfl) (hS _ hd) ?_ ?_
          rotate_left
          · (intro w hSw; (try dsimp only at hSw); go_simp; try rfl)
          try simp only [Act.put, List.setIfInBounds_toArray, List.set_cons_zero, List.set_cons_succ]
          refine late_take (i := 10) (v := ?_) (some 123) rfl rfl (by kernel_rfl) (by kernel_rfl) (by kernel_rfl) (by kernel_rfl) (fun _ _ _ h => h) (by kernel_rfl) (hS _ hd) ?_ ?_
          rotate_left
          · (intro w hSw; (try dsimp only at hSw); go_simp; try rfl)
          try simp only [Act.put, List.setIfInBounds_toArray, List.set_cons_zero, List.set_cons_succ]
          refine late_take (i := 11) (v := ?_) (some 124) rfl rfl (by kernel_rfl) (by kernel_rfl) (by kernel_rfl) (by kernel_rfl) (fun _ _ _ h => h) (by kernel_rfl) (hS _ hd) ?_ ?_
          rotate_left
          · (intro w hSw; (try dsimp only at hSw); go_simp; try rfl)
          try simp only [Act.put, List.setIfInBounds_toArray, List.set_cons_zero, List.set_cons_succ]
          refine late_take (i := 12) (v := ?_) (some 125) rfl rfl (by kernel_rfl) (by kernel_rfl) (by kernel_rfl) (by kernel_rfl) (fun _ _ _ h => h) (by kernel_rfl) (hS _ hd) ?_ ?_
          rotate_left
          · (intro w hSw; (try dsimp only at hSw); go_simp; try rfl)
          try simp only [Act.put, List.setIfInBounds_toArray, List.set_cons_zero, List.set_cons_succ]
          refine late_take (i := 13) (v := ?_) (some 126) rfl rfl (by kernel_rfl) (by kernel_rfl) (by kernel_rfl) (by kernel_rfl) (fun _ _ _ h => h) (by kernel_rfl) (hS _ hd) ?_ ?_
          rotate_left
          · (intro w hSw; (try dsimp only at hSw); go_simp; try rfl)
          try simp only [Act.put, List.setIfInBounds_toArray, List.set_cons_zero, List.set_cons_succ]
          refine late_take (i := 14) (v := ?_) (some 127) rfl rfl (by kernel_rfl) (by kernel_rfl) (by kernel_rfl) (by kernel_rfl) (fun _ _ _ h => h) (by kernel_rfl) (hS _ hd) ?_ ?_
          rotate_left
          · (intro w hSw; (try dsimp only at hSw); go_simp; try rfl)
          try simp only [Act.put, List.setIfInBounds_toArray, List.set_cons_zero, List.set_cons_succ]
          refine late_take (i := 15) (v := ?_) (some 128) rfl rfl (by kernel_rfl) (by kernel_rfl) (by kernel_rfl) (by kernel_rfl) (fun _ _ _ h => h) (by kernel_rfl) (hS _ hd) ?_ ?_
          rotate_left
          · (intro w hSw; (try dsimp only at hSw); go_simp; try rfl)
          try simp only [Act.put, List.setIfInBounds_toArray, List.set_cons_zero, List.set_cons_succ]
          refine late_take (i := 16) (v := ?_) (some 129) rfl rfl (by kernel_rfl) (by kernel_rfl) (by kernel_rfl) (by kernel_rfl) (fun _ _ _ h => h) (by kernel_rfl) (hS _ hd) ?_ ?_
          rotate_left
          · (intro w hSw; (try dsimp only at hSw); go_simp; try rfl)
          try simp only [Act.put, List.setIfInBounds_toArray, List.set_cons_zero, List.set_cons_succ]
          refine late_take (i := 17) (v := ?_) (some 130) rfl rfl (by kernel_rfl) (by kernel_rfl) (by kernel_rfl) (by kernel_rfl) (fun _ _ _ h => h) (by kernel_rfl) (hS _ hd) ?_ ?_
          rotate_left
          · (intro w hSw; (try dsimp only at hSw); go_simp; try rfl)
          try simp only [Act.put, List.setIfInBounds_toArray, List.set_cons_zero, List.set_cons_succ]
          refine late_take (i := 18) (v := ?_) (some 131) rfl rfl (by kernel_rfl) (by kernel_rfl) (by kernel_rfl) (by kernel_rfl) (fun _ _ _ h => h) (by kernel_rfl) (hS _ hd) ?_ ?_
          rotate_left
          · (intro w hSw; (try dsimp only at hSw); go_simp; try rfl)
          try simp only [Act.put, List.setIfInBounds_toArray, List.set_cons_zero, List.set_cons_succ]
          refine late_one (i := 19) rfl (by kernel_rfl) ?_
          intro K hK
          go_simp
          refine (cmp_r _ (-1090) 971 (-1074) 971 xp xl _ _ (hxp.below hd) (hxl.below hd) hcl).mono ?_
          rintro e r3 ⟨rfl, hb3⟩
          have f3 := hd.trans (hb3.mono hd.size)
          try show K _ _
          refine hK.out _ _ (Or.inr (hS _ f3)) ?_
          clear hK K
          try simp only [Act.put, List.setIfInBounds_toArray, List.set_cons_zero, List.set_cons_succ]
          refine late_take (i := 20) (v := .bool false) (some 133) rfl rfl (by kernel_rfl) (by kernel_rfl) (by kernel_rfl) (by kernel_rfl) (fun _ _ _ h => h) (by kernel_rfl) (hS _ f3) ?_ ?_
          · (intro w hSw; (try dsimp only at hSw); go_simp; try rfl)
          try simp only [Act.put, List.setIfInBounds_toArray, List.set_cons_zero, List.set_cons_succ]
          refine late_take (i := 21) (v := ?_) (some 134) rfl rfl (by kernel_rfl) (by kernel_rfl) (by kernel_rfl) (by kernel_rfl) (fun _ _ _ h => h) (by kernel_rfl) (hS _ f3) ?_ ?_
          rotate_left
          · (intro w hSw; (try dsimp only at hSw); go_simp; try rfl)
          try simp only [Act.put, List.setIfInBounds_toArray, List.set_cons_zero, List.set_cons_succ]
          refine late_take (i := 22) (v := ?_) (some 135) rfl rfl (by kernel_rfl) (by kernel_rfl) (by kernel_rfl) (by kernel_rfl) (fun _ _ _ h => h) (by kernel_rfl) (hS _ f3) ?_ ?_
          rotate_left
          · (intro w hSw; (try dsimp only at hSw); go_simp; try rfl)
          try simp only [Act.put, List.setIfInBounds_toArray, List.set_cons_zero, List.set_cons_succ]
          refine late_take (i := 23) (v := ?_) (some 136) rfl rfl (by kernel_rfl) (by kernel_rfl) (by kernel_rfl) (by kernel_rfl) (fun _ _ _ h => h) (by kernel_rfl) (hS _ f3) ?_ ?_
          rotate_left
          · (intro w hSw; (try dsimp only at hSw); go_simp; try rfl)
          try simp only [Act.put, List.setIfInBounds_toArray, List.set_cons_zero, List.set_cons_succ]
          refine late_take (i := 24) (v := ?_) (some 137) rfl rfl (by kernel_rfl) (by kernel_rfl) (by kernel_rfl) (by kernel_rfl) (fun _ _ _ h => h) (by kernel_rfl) (hS _ f3) ?_ ?_
          rotate_left
          · (intro w hSw; (try dsimp only at hSw); go_simp; try rfl)
          try simp only [Act.put, List.setIfInBounds_toArray, List.set_cons_zero, List.set_cons_succ]
          refine late_take (i := 25) (v := ?_) (some 138) rfl rfl (by kernel_rfl) (by kernel_rfl) (by kernel_rfl) (by kernel_rfl) (fun _ _ _ h => h) (by kernel_rfl) (hS _ f3) ?_ ?_
          rotate_left
          · (intro w hSw; (try dsimp only at hSw); go_simp; try rfl)
          try simp only [Act.put, List.setIfInBounds_toArray, List.set_cons_zero, List.set_cons_succ]
          refine late_take (i := 26) (v := ?_) (some 139) rfl rfl (by kernel_rfl) (by kernel_rfl) (by kernel_rfl) (by kernel_rfl) (fun _ _ _ h => h) (by kernel_rfl) (hS _ f3) ?_ ?_
          rotate_left
          · (intro w hSw; (try dsimp only at hSw); go_simp; try rfl)
          try simp only [Act.put, List.setIfInBounds_toArray, List.set_cons_zero, List.set_cons_succ]
          refine late_take (i := 27) (v := ?_) (some 140) rfl rfl (by kernel_rfl) (by kernel_rfl) (by kernel_rfl) (by kernel_rfl) (fun _ _ _ h => h) (by kernel_rfl) (hS _ f3) ?_ ?_
          rotate_left
          · (intro w hSw; (try dsimp only at hSw); go_simp; try rfl)
          try simp only [Act.put, List.setIfInBounds_toArray, List.set_cons_zero, List.set_cons_succ]
          refine late_one (i := 28) rfl (by kernel_rfl) ?_
          intro K hK
          go_simp
          refine (cmp_r _ (-1090) 971 (-1074) 971 xp xh _ _ (hxp.below f3) (hxh.below f3) hch).mono ?_
          rintro e r4 ⟨rfl, hb4⟩
          have f4 := f3.trans (hb4.mono f3.size)
          try show K _ _
          refine hK.out _ _ (Or.inr (hS _ f4)) ?_
          clear hK K
          try simp only [Act.put, List.setIfInBounds_toArray, List.set_cons_zero, List.set_cons_succ]
          refine late_take (i := 29) (v := .bool false) (some 142) rfl rfl (by kernel_rfl) (by kernel_rfl) (by kernel_rfl) (by kernel_rfl) (fun _ _ _ h => h) (by kernel_rfl) (hS _ f4) ?_ ?_
          · (intro w hSw; (try dsimp only at hSw); go_simp; try rfl)
          try simp only [Act.put, List.setIfInBounds_toArray, List.set_cons_zero, List.set_cons_succ]
          refine late_take (i := 30) (v := ?_) (some 143) rfl rfl (by kernel_rfl) (by kernel_rfl) (by kernel_rfl) (by kernel_rfl) (fun _ _ _ h => h) (by kernel_rfl) (hS _ f4) ?_ ?_
          rotate_left
          · (intro w hSw; (try dsimp only at hSw); go_simp; try rfl)
          try simp only [Act.put, List.setIfInBounds_toArray, List.set_cons_zero, List.set_cons_succ]
          refine late_take (i := 31) (v := ?_) (some 144) rfl rfl (by kernel_rfl) (by kernel_rfl) (by kernel_rfl) (by kernel_rfl) (fun _ _ _ h => h) (by kernel_rfl) (hS _ f4) ?_ ?_
          rotate_left
          · (intro w hSw; (try dsimp only at hSw); go_simp; try rfl)
          try simp only [Act.put, List.setIfInBounds_toArray, List.set_cons_zero, List.set_cons_succ]
          refine late_done (by kernel_rfl) ?_ _
          have hB9 := hBf _ <| hB5.trans (f4.mono hB5.size)
          go_wp2_with fail
          go_roundw
          case rel => exact ⟨i + 1, by omega, by go_num, hB9⟩
          case measure => simp [intOf]; omega
      · have hin : i = z.n.toNat := by omega
        subst hin
        have hlt' : decide (((z.n.toNat : Nat) : Int) < z.n) = false := decide_eq_false (by omega)
        cases rw_ with
        | false =>
          obtain rfl : so = false := HNO.out rfl
          go_wp2_with fail
          refine (started_any _).mono ?_
          rintro e r3 ⟨rfl, hb3⟩
          go_wp2_with fail
          go_ret
          exact ⟨rfl, hB.trans ((hBW.trans (hb3.mono hBW.size)).mono hB.size)⟩
        | true =>
          obtain ⟨Av, cv, rfl, hv⟩ := HVV.out rfl
          have HD := Lib.hid (HD0.out rfl)
          have HSD := Lib.hid (HSD0.out rfl)
          have HUP := Lib.hid (HUP0.out rfl)
          have HCC := Lib.hid (HCC0.out rfl)
          have hB8b := hBr
          have hBWb := hBW
          clear hBW hBr HVV HD0 HSD0 HUP0 HCC0 HNO
          go_wp2_with fail
          clear x0
          generalize wr = Wb at *
          go_loopw [22, 24] (fun v kk wr => ∃ (k : Nat) (ns : List NV), k ≤ z.g.length ∧ kk = .int .i64 (k : Nat) ∧ NAcc (-16) 0 Wb.heap.size wr v ns (endsZ z d k) ∧ Below Wb.heap.size Wb wr) (fun _ kk _ => z.g.length - (intOf kk).toNat)
          case atStart => exact ⟨0, _, Nat.zero_le _, rfl, NAcc.nil _ _ _ _, Below.refl _ _⟩
          case round =>
            obtain ⟨k, ns, hkl, rfl, hacc, hBr⟩ := hrel
            have hBW := hBWb.trans (hBr.mono hBWb.size)
            have x3 := (cells5 ((hBW.block _ (Array.getElem?_eq_some_iff.1 gr).1).trans gr)).2.2.2.1
            by_cases hlt : k < z.g.length
            · have hlt' : (k : Int) < (z.g.length : Int) := by omega
              obtain ⟨bc, oc, B', cn, rfl, hbc, hcc, hcol⟩ := col_row (hR.below hBW) k hlt
              have hnl : ns.length ≤ k := by rw [hacc.len, ends_length]; exact Nat.le_refl _
              have HS := Lib.hid (ends_succ z d k)
              have hcln : (colZ z k).length = z.n.toNat := by have := (hz.colAt hk k hlt).2.1; omega
              obtain ⟨V, hV⟩ : ∃ V, V = dotZ d (colZ z k) z.n.toNat := ⟨_, rfl⟩
              have hdot : ∀ W', Below wr.heap.size wr W' → Calls Tryz.prog 41 #[.slice Av d.length cv, .slice B' (colZ z k).length cn] W' fun e w' => TellsR (-2148) 1942 W' V e w' := fun W' (hb : Below wr.heap.size wr W') => by
                rw [hV]
                exact dot_any W' Av cv d B' cn (colZ z k) (hv.below (hBW.trans (hb.mono hBW.size))) (hcol.below hb) HD.out.1 (hz.colNum k) z.n.toNat HD.out.2 hcln (by omega)
              have HV := Lib.hid hV
              clear hcln hV
              generalize endsZ z d k = sk at *
              go_wp2_with fail
              refine (WholeI wr 1 (by decide) (by decide)).mono ?_
              rintro e r1 ⟨xw, rfl, hxw, hb1⟩
              have ha1 := below_alloc r1 (.cells #[.bool xw.neg, .slice xw.A xw.n xw.cap, .int .i64 xw.E] 70)
              have hnw : NumB (r1.alloc (.cells #[.bool xw.neg, .slice xw.A xw.n xw.cap, .int .i64 xw.E] 70)) r1.heap.size xw := heap_alloc_new r1 _
              replace hxw := hxw.below ha1
              have hlw : wr.heap.size ≤ r1.heap.size := hb1.size
              replace hb1 := hb1.trans (ha1.mono hb1.size)
              clear ha1
              go_upto_region 24 with fail
              generalize r1.alloc (.cells #[.bool xw.neg, .slice xw.A xw.n xw.cap, .int .i64 xw.E] 70) = r2 at *
              generalize r1.heap.size = bw at *
              have hcc' := (hb1.cell (p := ⟨bc, oc + k, none⟩) hbc).trans hcc
              have x3' := (cells5 (((hBW.trans (hb1.mono hBW.size)).block _ (Array.getElem?_eq_some_iff.1 gr).1).trans gr)).2.2.2.1
              go_wp2_with fail
              refine (hdot r2 hb1).mono ?_
              rintro e r3 ⟨xd, rfl, hxd, hb3⟩
              go_wp2_with fail
              refine (sign_r r3 _ _ xd _ hxd).mono ?_
              rintro e r4 ⟨rfl, hb4⟩
              have hb5 := hb3.trans (hb4.mono hb3.size)
              clear hcc' x3' hdot hxd hb3 hb4 x3
              have hsg := sign_neg (V)
              have hB6 := hb1.trans (hb5.mono hb1.size)
              replace hnw := hnw.below hb5
              replace hxw := hxw.below hb5
              cases hneg : decide (V < 0) with
              | true =>
                rw [hneg] at hsg
                have hx0 : V < 0 := of_decide_eq_true hneg
                have hx1 : (V).sign < 0 := of_decide_eq_true hsg
                go_wp2_with fail
                refine (WholeI r4 (-1) (by decide) (by decide)).mono ?_
                rintro e r5 ⟨xn, rfl, hxn, hb7⟩
                replace hnw := hnw.below hb7
                have hB7 := hB6.trans (hb7.mono hB6.size)
                obtain ⟨q0, q1, q2⟩ := hnw.cells
                have hfr := fun j => frozen_of_row _ _ j _ _ hnw
                obtain ⟨hnz, p2⟩ := hnw.put xn
                have hxz := hxn.far p2 (fun g e => by cases e; exact hnw.typed) (by decide)
                have hBz := hB7.trans (below_row p2 hlw hB7.size)
                go_upto_region 26 with fail
                clear q0 q1 q2 hfr p2 hB7 hB6 hb7 hb5 hb1 hxw hnw hxn
                generalize ((r5.setCell ⟨bw, 0, none⟩ (.bool xn.neg)).setCell ⟨bw, 1, none⟩ (.slice xn.A xn.n xn.cap)).setCell ⟨bw, 2, none⟩ (.int .i64 xn.E) = rz at *
                obtain ⟨q0, q1, q2⟩ := hnz.cells
                have hb3a := below_alloc rz (.cells #[.bool xn.neg, .slice xn.A xn.n xn.cap, .int .i64 xn.E] 70)
                have hA4 := (hacc.below hBz).below hb3a
                have hx4 := (hxz.wide (lo' := -16) (hi' := 0) (by decide) (by decide)).below hb3a
                have hnew := heap_alloc_new rz (.cells #[.bool xn.neg, .slice xn.A xn.n xn.cap, .int .i64 xn.E] 70)
                have hbel4 := (hBr.trans (hBz.mono hBr.size)).trans (hb3a.mono (hBr.trans (hBz.mono hBr.size)).size)
                have hsz4 := hbel4.size
                go_wp2_with (at_builtin; refine wpList_append_g NV.cells 3 40 (.agg #[.bool false, .slice none 0 0, .int .i64 0]) 58 70 Tryz.underlying58 infoNum rfl (by decide) (fun _ => rfl) rfl (.tmp 170) (.tmp 172) rfl Wb.heap.size _ ns [xn] rfl hA4.own ⟨rz.heap.size, 0, none⟩ 1 1 rfl rfl (World.news_of_block hnew) (by unfold maxLen; omega) (by omega) hsz4 (fun y hy u hu => by simp at hy; subst hy; simp [NV.cells] at hu; rcases hu with rfl | rfl | rfl <;> rfl) ?_; intro v5 w5 ho5 hg5 _; have hA5 := hA4.add hx4 ho5 hg5; have hbel5 := hbel4.trans (below_ownG hA4.own hg5 hsz4); clear ho5 hg5 hA4 hx4 hnew hbel4)
                go_roundw
                case rel => exact ⟨k + 1, _, by omega, by go_num, (by rw [HS.out, ← HV.out, sgnZ_yes hneg]; exact hA5), hbel5⟩
                case measure => simp [intOf]; omega
              | false =>
                rw [hneg] at hsg
                have hx0 : ¬ (V < 0) := of_decide_eq_false hneg
                have hx2 : 0 ≤ V := Int.not_lt.1 hx0
                have hx1 : ¬ ((V).sign < 0) := of_decide_eq_false hsg
                have hnz := hnw
                have hxz := hxw
                have hBz := hB6
                go_upto_region 26 with fail
                obtain ⟨q0, q1, q2⟩ := hnz.cells
                have hb3a := below_alloc r4 (.cells #[.bool xw.neg, .slice xw.A xw.n xw.cap, .int .i64 xw.E] 70)
                have hA4 := (hacc.below hBz).below hb3a
                have hx4 := (hxz.wide (lo' := -16) (hi' := 0) (by decide) (by decide)).below hb3a
                have hnew := heap_alloc_new r4 (.cells #[.bool xw.neg, .slice xw.A xw.n xw.cap, .int .i64 xw.E] 70)
                have hbel4 := (hBr.trans (hBz.mono hBr.size)).trans (hb3a.mono (hBr.trans (hBz.mono hBr.size)).size)
                have hsz4 := hbel4.size
                go_wp2_with (at_builtin; refine wpList_append_g NV.cells 3 40 (.agg #[.bool false, .slice none 0 0, .int .i64 0]) 58 70 Tryz.underlying58 infoNum rfl (by decide) (fun _ => rfl) rfl (.tmp 170) (.tmp 172) rfl Wb.heap.size _ ns [xw] rfl hA4.own ⟨r4.heap.size, 0, none⟩ 1 1 rfl rfl (World.news_of_block hnew) (by unfold maxLen; omega) (by omega) hsz4 (fun y hy u hu => by simp at hy; subst hy; simp [NV.cells] at hu; rcases hu with rfl | rfl | rfl <;> rfl) ?_; intro v5 w5 ho5 hg5 _; have hA5 := hA4.add hx4 ho5 hg5; have hbel5 := hbel4.trans (below_ownG hA4.own hg5 hsz4); clear ho5 hg5 hA4 hx4 hnew hbel4)
                go_roundw
                case rel => exact ⟨k + 1, _, by omega, by go_num, (by rw [HS.out, ← HV.out, sgnZ_no hneg]; exact hA5), hbel5⟩
                case measure => simp [intOf]; omega
            · obtain rfl : k = z.g.length := by omega
              have hlt' : decide (((z.g.length : Nat) : Int) < (z.g.length : Nat)) = false := decide_eq_false (by omega)
              obtain ⟨Ae2, ke2, hve, hE2e⟩ := hacc.row
              rw [ends_length] at hve
              subst hve
              have hB8e := hB8b.trans (hBr.mono hB8b.size)
              have hBWe := hBW
              clear hacc hBW hBr
              go_wp2_with fail
              clear x3
              generalize wr = We at *
              go_loopw [23, 26] (fun v kk wr => ∃ (k : Nat) (ns : List NV), k ≤ z.n.toNat ∧ kk = .int .i64 (k : Nat) ∧ NAcc (-16) 0 We.heap.size wr v ns (signsZ d k) ∧ Below We.heap.size We wr) (fun _ kk _ => z.n.toNat - (intOf kk).toNat)
              case atStart => exact ⟨0, _, Nat.zero_le _, rfl, NAcc.nil _ _ _ _, Below.refl _ _⟩
              case round =>
                obtain ⟨k, ns, hkl, rfl, hacc, hBr⟩ := hrel
                have hB8 := hB8e.trans (hBr.mono hB8e.size)
                have hBW := hBWe.trans (hBr.mono hBWe.size)
                have x0 := (cells5 ((hBW.block _ (Array.getElem?_eq_some_iff.1 gr).1).trans gr)).1
                by_cases hlt : (k : Int) < z.n
                · obtain ⟨bv, ov, xv, rfl, hbv, v0, v1, v2, hxv⟩ := row_num (hv.below hBW) k (by have := HD.out.2; omega)
                  have hnl : ns.length ≤ k := by rw [hacc.len, signs_length]; exact Nat.le_refl _
                  have HS := Lib.hid (signs_succ d k)
                  obtain ⟨V, hV⟩ : ∃ V, V = fz (d.getD k 0) := ⟨_, rfl⟩
                  rw [← hV] at hxv
                  have HV := Lib.hid hV
                  clear hV
                  have hkd : (k : Int) < (d.length : Int) := by have := HD.out.2; omega
                  generalize signsZ d k = sk at *
                  go_wp2_with fail
                  refine (WholeI wr 1 (by decide) (by decide)).mono ?_
                  rintro e r1 ⟨xw, rfl, hxw, hb1⟩
                  have ha1 := below_alloc r1 (.cells #[.bool xw.neg, .slice xw.A xw.n xw.cap, .int .i64 xw.E] 70)
                  have hnw : NumB (r1.alloc (.cells #[.bool xw.neg, .slice xw.A xw.n xw.cap, .int .i64 xw.E] 70)) r1.heap.size xw := heap_alloc_new r1 _
                  replace hxw := hxw.below ha1
                  have hlw : wr.heap.size ≤ r1.heap.size := hb1.size
                  replace hb1 := hb1.trans (ha1.mono hb1.size)
                  clear ha1
                  go_upto_region 31 with fail
                  generalize r1.alloc (.cells #[.bool xw.neg, .slice xw.A xw.n xw.cap, .int .i64 xw.E] 70) = r2 at *
                  generalize r1.heap.size = bw at *
                  have v0' := (hb1.cell (p := ⟨bv, ov + k * 3, none⟩) hbv).trans v0
                  have v1' := (hb1.cell (p := ⟨bv, ov + k * 3 + 1, none⟩) hbv).trans v1
                  have v2' := (hb1.cell (p := ⟨bv, ov + k * 3 + 2, none⟩) hbv).trans v2
                  go_wp2_with fail
                  refine (sign_r r2 _ _ xv _ (hxv.below hb1)).mono ?_
                  rintro e r4 ⟨rfl, hb5⟩
                  clear v0' v1' v2' v0 v1 v2 x0
                  have hsg := sign_neg (V)
                  have hB6 := hb1.trans (hb5.mono hb1.size)
                  replace hnw := hnw.below hb5
                  replace hxw := hxw.below hb5
                  cases hneg : decide (V < 0) with
                  | true =>
                    rw [hneg] at hsg
                    have hx0 : V < 0 := of_decide_eq_true hneg
                    have hx1 : (V).sign < 0 := of_decide_eq_true hsg
                    go_wp2_with fail
                    refine (WholeI r4 (-1) (by decide) (by decide)).mono ?_
                    rintro e r5 ⟨xn, rfl, hxn, hb7⟩
                    replace hnw := hnw.below hb7
                    have hB7 := hB6.trans (hb7.mono hB6.size)
                    obtain ⟨q0, q1, q2⟩ := hnw.cells
                    have hfr := fun j => frozen_of_row _ _ j _ _ hnw
                    obtain ⟨hnz, p2⟩ := hnw.put xn
                    have hxz := hxn.far p2 (fun g e => by cases e; exact hnw.typed) (by decide)
                    have hBz := hB7.trans (below_row p2 hlw hB7.size)
                    go_upto_region 33 with fail
                    clear q0 q1 q2 hfr p2 hB7 hB6 hb7 hb5 hb1 hxw hnw hxn
                    generalize ((r5.setCell ⟨bw, 0, none⟩ (.bool xn.neg)).setCell ⟨bw, 1, none⟩ (.slice xn.A xn.n xn.cap)).setCell ⟨bw, 2, none⟩ (.int .i64 xn.E) = rz at *
                    obtain ⟨q0, q1, q2⟩ := hnz.cells
                    have hb3a := below_alloc rz (.cells #[.bool xn.neg, .slice xn.A xn.n xn.cap, .int .i64 xn.E] 70)
                    have hA4 := (hacc.below hBz).below hb3a
                    have hx4 := (hxz.wide (lo' := -16) (hi' := 0) (by decide) (by decide)).below hb3a
                    have hnew := heap_alloc_new rz (.cells #[.bool xn.neg, .slice xn.A xn.n xn.cap, .int .i64 xn.E] 70)
                    have hbel4 := (hBr.trans (hBz.mono hBr.size)).trans (hb3a.mono (hBr.trans (hBz.mono hBr.size)).size)
                    have hsz4 := hbel4.size
                    go_wp2_with (at_builtin; refine wpList_append_g NV.cells 3 40 (.agg #[.bool false, .slice none 0 0, .int .i64 0]) 58 70 Tryz.underlying58 infoNum rfl (by decide) (fun _ => rfl) rfl (.tmp 188) (.tmp 190) rfl We.heap.size _ ns [xn] rfl hA4.own ⟨rz.heap.size, 0, none⟩ 1 1 rfl rfl (World.news_of_block hnew) (by unfold maxLen; omega) (by omega) hsz4 (fun y hy u hu => by simp at hy; subst hy; simp [NV.cells] at hu; rcases hu with rfl | rfl | rfl <;> rfl) ?_; intro v5 w5 ho5 hg5 _; have hA5 := hA4.add hx4 ho5 hg5; have hbel5 := hbel4.trans (below_ownG hA4.own hg5 hsz4); clear ho5 hg5 hA4 hx4 hnew hbel4)
                    go_roundw
                    case rel => exact ⟨k + 1, _, by omega, by go_num, (by rw [HS.out, ← HV.out, sgnZ_yes hneg]; exact hA5), hbel5⟩
                    case measure => simp [intOf]; omega
                  | false =>
                    rw [hneg] at hsg
                    have hx0 : ¬ (V < 0) := of_decide_eq_false hneg
                    have hx2 : 0 ≤ V := Int.not_lt.1 hx0
                    have hx1 : ¬ ((V).sign < 0) := of_decide_eq_false hsg
                    have hnz := hnw
                    have hxz := hxw
                    have hBz := hB6
                    go_upto_region 33 with fail
                    obtain ⟨q0, q1, q2⟩ := hnz.cells
                    have hb3a := below_alloc r4 (.cells #[.bool xw.neg, .slice xw.A xw.n xw.cap, .int .i64 xw.E] 70)
                    have hA4 := (hacc.below hBz).below hb3a
                    have hx4 := (hxz.wide (lo' := -16) (hi' := 0) (by decide) (by decide)).below hb3a
                    have hnew := heap_alloc_new r4 (.cells #[.bool xw.neg, .slice xw.A xw.n xw.cap, .int .i64 xw.E] 70)
                    have hbel4 := (hBr.trans (hBz.mono hBr.size)).trans (hb3a.mono (hBr.trans (hBz.mono hBr.size)).size)
                    have hsz4 := hbel4.size
                    go_wp2_with (at_builtin; refine wpList_append_g NV.cells 3 40 (.agg #[.bool false, .slice none 0 0, .int .i64 0]) 58 70 Tryz.underlying58 infoNum rfl (by decide) (fun _ => rfl) rfl (.tmp 188) (.tmp 190) rfl We.heap.size _ ns [xw] rfl hA4.own ⟨r4.heap.size, 0, none⟩ 1 1 rfl rfl (World.news_of_block hnew) (by unfold maxLen; omega) (by omega) hsz4 (fun y hy u hu => by simp at hy; subst hy; simp [NV.cells] at hu; rcases hu with rfl | rfl | rfl <;> rfl) ?_; intro v5 w5 ho5 hg5 _; have hA5 := hA4.add hx4 ho5 hg5; have hbel5 := hbel4.trans (below_ownG hA4.own hg5 hsz4); clear ho5 hg5 hA4 hx4 hnew hbel4)
                    go_roundw
                    case rel => exact ⟨k + 1, _, by omega, by go_num, (by rw [HS.out, ← HV.out, sgnZ_no hneg]; exact hA5), hbel5⟩
                    case measure => simp [intOf]; omega
                · obtain rfl : k = z.n.toNat := by omega
                  have hlt' : decide (((z.n.toNat : Nat) : Int) < z.n) = false := decide_eq_false (by omega)
                  obtain ⟨Ar2, kr2, hve, hF2⟩ := hacc.row
                  rw [signs_length] at hve
                  subst hve
                  have hE2 := hE2e.below hBr
                  clear hacc x0
                  have hpf := Point_any wr A1 B1 C1 D1 Ae2 Ar2 kA1 kB1 kC1 kD1 ke2 kr2 z.g.length z.n.toNat z _ _ (hR.below hBW) hz hE2 hF2 (ends_length _ _ _) (signs_length _ _) (Nat.le_refl _) (by omega) (ends_unit _ _ _) (signs_unit _ _) (by omega) (by omega)
                  have hvw := hv.below hBW
                  have k9 := cells5 ((hBW.block _ (Array.getElem?_eq_some_iff.1 gr).1).trans gr)
                  obtain ⟨x0, x1, x2, x3, x4⟩ := k9
                  unfold rval at hpf
                  go_wp2_with fail
                  refine hpf.mono ?_
                  rintro e r1 ⟨Aq, kq, rfl, hQ, hb1⟩
                  go_wp2_with fail
                  refine (dotp_any r1 z hz Av cv d Aq kq _ _ (hvw.below hb1) hQ HD.out.1 HD.out.2 (ends_unit _ _ _) (signs_unit _ _)).mono ?_
                  rintro e r2 ⟨xf, rfl, hxf, hb2⟩
                  rw [HFAR.out] at hxf
                  have ha1 := below_alloc r2 (.cells #[.bool xf.neg, .slice xf.A xf.n xf.cap, .int .i64 xf.E] 70)
                  have hnf : NumB (r2.alloc (.cells #[.bool xf.neg, .slice xf.A xf.n xf.cap, .int .i64 xf.E] 70)) r2.heap.size xf := heap_alloc_new r2 _
                  replace hxf := hxf.below ha1
                  replace hb1 := (hb1.trans (hb2.mono hb1.size)).trans (ha1.mono (hb1.trans (hb2.mono hb1.size)).size)
                  clear ha1 hb2 x0 x1 x2 x3 x4 hpf
                  go_upto_region 35 with fail
                  generalize r2.alloc (.cells #[.bool xf.neg, .slice xf.A xf.n xf.cap, .int .i64 xf.E] 70) = r3 at *
                  generalize r2.heap.size = bf at *
                  obtain ⟨q0, q1, q2⟩ := hnf.cells
                  have hro := round_r r3 1 _ _ xf _ hxf (by decide) (by decide)
                  rw [HSD.out] at hro
                  go_wp2_with fail
                  refine hro.mono ?_
                  rintro e r4 ⟨rfl, hb2⟩
                  replace hb1 := hb1.trans (hb2.mono hb1.size)
                  clear q0 q1 q2 hro hb2
                  cases so with
                  | false =>
                    go_wp2_with fail
                    refine (started_any _).mono ?_
                    rintro e r5 ⟨rfl, hb3⟩
                    go_wp2_with fail
                    go_ret
                    exact ⟨rfl, hB.trans ((hBW.trans ((hb1.trans (hb3.mono hb1.size)).mono hBW.size)).mono hB.size)⟩
                  | true =>
                    obtain ⟨⟨hsn, hsl⟩, hple⟩ := HUP.out rfl
                    have HC3 := Lib.hid (HCC.out rfl)
                    clear HCC HUP
                    go_wp2_with fail
                    refine (bits_any _ _).mono ?_
                    rintro e _ ⟨rfl, rfl⟩
                    go_wp2_with fail
                    refine (ofF _ hsn _ hsl).mono ?_
                    rintro e r5 ⟨xt, rfl, hxt, hb3⟩
                    have ha1 := below_alloc r5 (.cells #[.bool xt.neg, .slice xt.A xt.n xt.cap, .int .i64 xt.E] 70)
                    have hnt : NumB (r5.alloc (.cells #[.bool xt.neg, .slice xt.A xt.n xt.cap, .int .i64 xt.E] 70)) r5.heap.size xt := heap_alloc_new r5 _
                    replace hxt := hxt.below ha1
                    replace hb3 := hb3.trans (ha1.mono hb3.size)
                    go_upto_region 40 with fail
                    generalize r5.alloc (.cells #[.bool xt.neg, .slice xt.A xt.n xt.cap, .int .i64 xt.E] 70) = W6 at *
                    generalize r5.heap.size = bt at *
                    have hb6 := hb1.trans (hb3.mono hb1.size)
                    have hBW6 := hBW.trans (hb6.mono hBW.size)
                    have hv6 := hv.below hBW6
                    have hP6 := hP.below (hB8.trans (hb6.mono hB8.size))
                    have hcc := HC3.out
                    have hle : prodN (d.map fz) (pointZ z (partsZ l 0 z.g.length nb) (partsZ l z.g.length z.n.toNat nb) z.n.toNat) z.n.toNat + -fz su ≤ 0 := by omega
                    have hS : ∀ W', Below W6.heap.size W6 W' → (fun w' => w'.cell? ⟨bt, 0, none⟩ = some (.bool xt.neg) ∧ w'.cell? ⟨bt, 1, none⟩ = some (.slice xt.A xt.n xt.cap) ∧ w'.cell? ⟨bt, 2, none⟩ = some (.int .i64 xt.E)) W' := fun W' hb => (hnt.below hb).cells
                    have hd := (Below.refl W6.heap.size W6).drew
                    refine late_begin (fun w' => w'.cell? ⟨bt, 0, none⟩ = some (.bool xt.neg) ∧ w'.cell? ⟨bt, 1, none⟩ = some (.slice xt.A xt.n xt.cap) ∧ w'.cell? ⟨bt, 2, none⟩ = some (.int .i64 xt.E)) [] (by kernel_rfl) ?_
                    refine late_take (i := 0) (v := ?_) (some 221) rfl rfl (by kernel_rfl) (by kernel_rfl) (by kernel_rfl) (by kernel_rfl) (fun _ _ _ h => h) (by kernel_rfl) (hS _ hd) ?_ ?_
                    rotate_left
                    · (intro w hSw; (try dsimp only at hSw); go_simp; try rfl)
                    try simp only [Act.put, List.setIfInBounds_toArray, List.set_cons_zero, List.set_cons_succ]
                    refine late_take (i := 1) (v := ?_) (some 222) rfl rfl (by kernel_rfl) (by kernel_rfl) (by kernel_rfl) (by kernel_rfl) (fun _ _ _ h => h) (by kernel_rfl) (hS _ hd) ?_ ?_
                    rotate_left
                    · (intro w hSw; (try dsimp only at hSw); go_simp; try rfl)
                    try simp only [Act.put, List.setIfInBounds_toArray, List.set_cons_zero, List.set_cons_succ]
                    refine late_take (i := 3) (v := ?_) (some 224) rfl rfl (by kernel_rfl) (by kernel_rfl) (by kernel_rfl) (by kernel_rfl) (fun _ _ _ h => h) (by kernel_rfl) (hS _ hd) ?_ ?_
                    rotate_left
                    · (intro w hSw; (try dsimp only at hSw); go_simp; try rfl)
                    try simp only [Act.put, List.setIfInBounds_toArray, List.set_cons_zero, List.set_cons_succ]
                    refine late_one (i := 2) rfl (by kernel_rfl) ?_
                    intro K hK
                    go_simp
                    refine (dotp_any _ z hz Av cv d Ap kp _ _ (hv6.below hd) (hP6.below hd) HD.out.1 HD.out.2 (parts_unit _ _ _ _) (parts_unit _ _ _ _)).mono ?_
                    rintro e r7 ⟨xq, rfl, hxq, hb7⟩
                    have f7 := hd.trans (hb7.mono hd.size)
                    try show K _ _
                    refine hK.out _ _ (Or.inr (hS _ f7)) ?_
                    clear hK K
                    try simp only [Act.put, List.setIfInBounds_toArray, List.set_cons_zero, List.set_cons_succ]
                    refine late_one (i := 4) rfl (by kernel_rfl) ?_
                    intro K hK
                    go_simp
                    refine (cmp_r _ (-2164) 1942 (-1074) 971 xq xt _ _ hxq (hxt.below f7) hcc).mono ?_
                    rintro e r8 ⟨rfl, hb8⟩
                    have f8 := f7.trans (hb8.mono f7.size)
                    try show K _ _
                    refine hK.out _ _ (Or.inr (hS _ f8)) ?_
                    clear hK K
                    try simp only [Act.put, List.setIfInBounds_toArray, List.set_cons_zero, List.set_cons_succ]
                    refine late_take (i := 5) (v := .bool false) (some 226) rfl rfl (by kernel_rfl) (by kernel_rfl) (by kernel_rfl) (by kernel_rfl) (fun _ _ _ h => h) (by kernel_rfl) (hS _ f8) ?_ ?_
                    · (intro w hSw; (try dsimp only at hSw); go_simp; try rfl)
                    try simp only [Act.put, List.setIfInBounds_toArray, List.set_cons_zero, List.set_cons_succ]
                    refine late_done (by kernel_rfl) ?_ _
                    clear hS
                    go_wp2_with fail
                    refine (started_any _).mono ?_
                    rintro e r9 ⟨rfl, hb9⟩
                    go_wp2_with fail
                    go_ret
                    exact ⟨rfl, hB.trans ((hBW6.trans ((f8.trans (hb9.mono f8.size)).mono hBW6.size)).mono hB.size)⟩
end Go.Proofs.YtpfbgenefjhcjaaGreatDoor
