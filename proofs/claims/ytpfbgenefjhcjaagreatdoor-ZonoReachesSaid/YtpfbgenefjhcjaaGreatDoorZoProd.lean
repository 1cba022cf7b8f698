/- law10.product. -/
import Derived.Test.YtpfbgenefjhcjaaGreatDoorZoParts
namespace Go.Proofs.YtpfbgenefjhcjaaGreatDoor
set_option linter.unusedVariables false
set_option linter.unusedSimpArgs false
open Go Go.RowKit
set_option maxRecDepth 100000
theorem getD_some' {α : Type} {l : List α} {j : Nat} {x d : α} (h : l[j]? = some x) : l.getD j d = x := by rw [List.getD_eq_getElem?_getD, h, Option.getD_some]
/-- The sum of the products of two lists. -/
def prodN (zs ys : List Int) (k : Nat) : Int := sumTo (fun i => mulZ (zs.getD i 0) (ys.getD i 0)) k
set_option maxHeartbeats 4000000 in
theorem product_any (w : World) (l1 u1 l2 u2 : Int) (A B : Option Addr) (ca cb n m : Nat) (zs ys : List Int) (h1 : NLt l1 u1 w A ca zs) (h2 : NLt l2 u2 w B cb ys) (hzn : zs.length = n) (hym : ys.length = m) (hnm : n ≤ m) (hn : n ≤ 4294967296) (hm : m ≤ 4294967296)
    (hl1 : -2212 ≤ l1) (hl2 : -2212 ≤ l2) (hl : -2212 ≤ l1 + l2) (hu1 : u1 ≤ 5000) (hu2 : u2 ≤ 5000) (hu : u1 + u2 ≤ 5000) (hl0 : l1 + l2 ≤ 0) (hu0 : 0 ≤ u1 + u2)
    (H1 : ∀ i, i < n → (zs.getD i 0).natAbs < W32 ^ 200) (H2 : ∀ i, i < n → (ys.getD i 0).natAbs < W32 ^ 200) (H3 : ∀ k, k ≤ n → (prodN zs ys k).natAbs < W32 ^ 400) :
    Calls Tryz.prog 41 #[.slice A n ca, .slice B m cb] w fun e w' => TellsR (l1 + l2) (u1 + u2) w (prodN zs ys n) e w' := by
  have hb0 := below_alloc w (.cells #[.bool false, .slice none 0 0, .int .i64 0] 70)
  have hRes : NumB (w.alloc (.cells #[.bool false, .slice none 0 0, .int .i64 0] 70)) w.heap.size ⟨false, none, 0, 0, 0⟩ := heap_alloc_new w _
  have hz0 : ∀ W, NumR (l1 + l2) (u1 + u2) W ⟨false, none, 0, 0, 0⟩ 0 := fun W => ⟨(NV.zero_r W).is, hl0, hu0⟩
  unfold TellsR
  go_enter Tryz.func41, Tryz.ntmps41
  go_upto_region 2 with fail
  have hsz := World.size_alloc w (.cells #[.bool false, .slice none 0 0, .int .i64 0] 70)
  have hb1 := below_alloc (w.alloc (.cells #[.bool false, .slice none 0 0, .int .i64 0] 70)) (.cells #[.bool false, .slice none 0 0, .int .i64 0] 70)
  have hSum : NumB ((w.alloc (.cells #[.bool false, .slice none 0 0, .int .i64 0] 70)).alloc (.cells #[.bool false, .slice none 0 0, .int .i64 0] 70)) (w.heap.size + 1) ⟨false, none, 0, 0, 0⟩ := by
    have := heap_alloc_new (w.alloc (.cells #[.bool false, .slice none 0 0, .int .i64 0] 70)) (.cells #[.bool false, .slice none 0 0, .int .i64 0] 70)
    rw [hsz] at this
    exact this
  generalize (w.alloc (.cells #[.bool false, .slice none 0 0, .int .i64 0] 70)).alloc (.cells #[.bool false, .slice none 0 0, .int .i64 0] 70) = W1 at *
  generalize w.alloc (.cells #[.bool false, .slice none 0 0, .int .i64 0] 70) = W0 at *
  have h1' := h1.below hb0
  have h2' := h2.below hb0
  obtain ⟨bs, hbsE⟩ : ∃ b, w.heap.size + 1 = b := ⟨_, rfl⟩
  rw [hbsE] at hSum hsz ⊢
  have hbs : W0.heap.size ≤ bs := by omega
  have hHH := Lib.hid (And.intro H1 (And.intro H2 H3))
  clear hsz hbsE H1 H2 H3 h1 h2
  go_wp2_with fail
  go_loopw [6] (fun kk wr => ∃ (k : Nat) (x : NV), k ≤ n ∧ kk = .int .i64 (k : Nat) ∧ NumB wr bs x ∧ NumR (l1 + l2) (u1 + u2) wr x (prodN zs ys k) ∧ Below W0.heap.size W0 wr) (fun kk _ => n - (intOf kk).toNat)
  case atStart => exact ⟨0, _, Nat.zero_le _, rfl, hSum, hz0 _, hb1⟩
  case round =>
    obtain ⟨k, x, hkn, rfl, hx, hxr, hB⟩ := hrel
    clear hSum hz0 hb1
    by_cases hlt : k < n
    · have hlt' : (k : Int) < (n : Int) := by omega
      have hlm : (k : Int) < (m : Int) := by omega
      have hlmN : k < m := by omega
      obtain ⟨z1, hz1e⟩ := get_some zs k (by omega)
      obtain ⟨z2, hz2e⟩ := get_some ys k (by omega)
      have hz1 := hHH.out.1 k hlt
      have hz2 := hHH.out.2.1 k hlt
      have hbnd := hHH.out.2.2 (k + 1) hlt
      have hsucc : prodN zs ys (k + 1) = prodN zs ys k + mulZ z1 z2 := by
        show prodN zs ys k + mulZ (zs.getD k 0) (ys.getD k 0) = _
        rw [getD_some' hz1e, getD_some' hz2e]
      rw [getD_some' hz1e] at hz1
      rw [getD_some' hz2e] at hz2
      rw [hsucc] at hbnd
      obtain ⟨ba, oa, y1, rfl, hba, a1, a2, a3, hy1⟩ := h1'.row k z1 hz1e
      obtain ⟨bb, ob, y2, rfl, hbb, b1, b2, b3, hy2⟩ := h2'.row k z2 hz2e
      have HS := Lib.hid hsucc
      clear hz1e hz2e hsucc
      generalize prodN zs ys k = s at *
      go_wp2_with fail
      have hS : ∀ W', Below wr.heap.size wr W' → (fun w' => (w'.cell? ⟨bs, 0, none⟩ = some (.bool x.neg) ∧ w'.cell? ⟨bs, 1, none⟩ = some (.slice x.A x.n x.cap) ∧ w'.cell? ⟨bs, 2, none⟩ = some (.int .i64 x.E)) ∧ (w'.cell? ⟨ba, oa + k * 3, none⟩ = some (.bool y1.neg) ∧ w'.cell? ⟨ba, oa + k * 3 + 1, none⟩ = some (.slice y1.A y1.n y1.cap) ∧ w'.cell? ⟨ba, oa + k * 3 + 2, none⟩ = some (.int .i64 y1.E)) ∧ (w'.cell? ⟨bb, ob + k * 3, none⟩ = some (.bool y2.neg) ∧ w'.cell? ⟨bb, ob + k * 3 + 1, none⟩ = some (.slice y2.A y2.n y2.cap) ∧ w'.cell? ⟨bb, ob + k * 3 + 2, none⟩ = some (.int .i64 y2.E))) W' := fun W' hb => ⟨(hx.below hb).cells, ⟨((hB.trans (hb.mono hB.size)).cell (p := ⟨ba, oa + k * 3, none⟩) hba).trans a1, ((hB.trans (hb.mono hB.size)).cell (p := ⟨ba, oa + k * 3 + 1, none⟩) hba).trans a2, ((hB.trans (hb.mono hB.size)).cell (p := ⟨ba, oa + k * 3 + 2, none⟩) hba).trans a3⟩, ⟨((hB.trans (hb.mono hB.size)).cell (p := ⟨bb, ob + k * 3, none⟩) hbb).trans b1, ((hB.trans (hb.mono hB.size)).cell (p := ⟨bb, ob + k * 3 + 1, none⟩) hbb).trans b2, ((hB.trans (hb.mono hB.size)).cell (p := ⟨bb, ob + k * 3 + 2, none⟩) hbb).trans b3⟩⟩
      have hd := (Below.refl wr.heap.size wr).drew
      refine late_begin (fun w' => (w'.cell? ⟨bs, 0, none⟩ = some (.bool x.neg) ∧ w'.cell? ⟨bs, 1, none⟩ = some (.slice x.A x.n x.cap) ∧ w'.cell? ⟨bs, 2, none⟩ = some (.int .i64 x.E)) ∧ (w'.cell? ⟨ba, oa + k * 3, none⟩ = some (.bool y1.neg) ∧ w'.cell? ⟨ba, oa + k * 3 + 1, none⟩ = some (.slice y1.A y1.n y1.cap) ∧ w'.cell? ⟨ba, oa + k * 3 + 2, none⟩ = some (.int .i64 y1.E)) ∧ (w'.cell? ⟨bb, ob + k * 3, none⟩ = some (.bool y2.neg) ∧ w'.cell? ⟨bb, ob + k * 3 + 1, none⟩ = some (.slice y2.A y2.n y2.cap) ∧ w'.cell? ⟨bb, ob + k * 3 + 2, none⟩ = some (.int .i64 y2.E))) [11] (by kernel_rfl) ?_
      refine late_take (i := 0) (v := ?_) (some 14) rfl rfl (by kernel_rfl) (by kernel_rfl) (by kernel_rfl) (by kernel_rfl) (fun _ _ _ h => h) (by kernel_rfl) (hS _ hd) ?_ ?_
      rotate_left
      · (intro w hSw; (try dsimp only at hSw); go_simp; try rfl)
      try simp only [Act.put, List.setIfInBounds_toArray, List.set_cons_zero, List.set_cons_succ]
      refine late_take (i := 1) (v := ?_) (some 15) rfl rfl (by kernel_rfl) (by kernel_rfl) (by kernel_rfl) (by kernel_rfl) (fun _ _ _ h => h) (by kernel_rfl) (hS _ hd) ?_ ?_
      rotate_left
      · (intro w hSw; (try dsimp only at hSw); go_simp; try rfl)
      try simp only [Act.put, List.setIfInBounds_toArray, List.set_cons_zero, List.set_cons_succ]
      refine late_take (i := 2) (v := ?_) (some 16) rfl rfl (by kernel_rfl) (by kernel_rfl) (by kernel_rfl) (by kernel_rfl) (fun _ _ _ h => h) (by kernel_rfl) (hS _ hd) ?_ ?_
      rotate_left
      · (intro w hSw; (try dsimp only at hSw); go_simp; try rfl)
      try simp only [Act.put, List.setIfInBounds_toArray, List.set_cons_zero, List.set_cons_succ]
      refine late_take (i := 3) (v := ?_) (some 17) rfl rfl (by kernel_rfl) (by kernel_rfl) (by kernel_rfl) (by kernel_rfl) (fun _ _ _ h => h) (by kernel_rfl) (hS _ hd) ?_ ?_
      rotate_left
      · (intro w hSw; (try dsimp only at hSw); go_simp; try rfl)
      try simp only [Act.put, List.setIfInBounds_toArray, List.set_cons_zero, List.set_cons_succ]
      refine late_take (i := 4) (v := ?_) (some 18) rfl rfl (by kernel_rfl) (by kernel_rfl) (by kernel_rfl) (by kernel_rfl) (fun _ _ _ h => h) (by kernel_rfl) (hS _ hd) ?_ ?_
      rotate_left
      · (intro w hSw; (try dsimp only at hSw); go_simp; try rfl)
      try simp only [Act.put, List.setIfInBounds_toArray, List.set_cons_zero, List.set_cons_succ]
      refine late_take (i := 5) (v := ?_) (some 19) rfl rfl (by kernel_rfl) (by kernel_rfl) (by kernel_rfl) (by kernel_rfl) (fun _ _ _ h => h) (by kernel_rfl) (hS _ hd) ?_ ?_
      rotate_left
      · (intro w hSw; (try dsimp only at hSw); go_simp; try rfl)
      try simp only [Act.put, List.setIfInBounds_toArray, List.set_cons_zero, List.set_cons_succ]
      refine late_take (i := 6) (v := ?_) (some 20) rfl rfl (by kernel_rfl) (by kernel_rfl) (by kernel_rfl) (by kernel_rfl) (fun _ _ _ h => h) (by kernel_rfl) (hS _ hd) ?_ ?_
      rotate_left
      · (intro w hSw; (try dsimp only at hSw); go_simp; try rfl)
      try simp only [Act.put, List.setIfInBounds_toArray, List.set_cons_zero, List.set_cons_succ]
      refine late_take (i := 7) (v := ?_) (some 21) rfl rfl (by kernel_rfl) (by kernel_rfl) (by kernel_rfl) (by kernel_rfl) (fun _ _ _ h => h) (by kernel_rfl) (hS _ hd) ?_ ?_
      rotate_left
      · (intro w hSw; (try dsimp only at hSw); go_simp; try rfl)
      try simp only [Act.put, List.setIfInBounds_toArray, List.set_cons_zero, List.set_cons_succ]
      refine late_take (i := 8) (v := ?_) (some 22) rfl rfl (by kernel_rfl) (by kernel_rfl) (by kernel_rfl) (by kernel_rfl) (fun _ _ _ h => h) (by kernel_rfl) (hS _ hd) ?_ ?_
      rotate_left
      · (intro w hSw; (try dsimp only at hSw); go_simp; try rfl)
      try simp only [Act.put, List.setIfInBounds_toArray, List.set_cons_zero, List.set_cons_succ]
      refine late_one (i := 9) rfl (by kernel_rfl) ?_
      intro K hK
      go_simp
      refine (times_r _ l1 u1 l2 u2 y1 y2 _ _ (hy1.below (hB.trans (hd.mono hB.size))) (hy2.below (hB.trans (hd.mono hB.size))) hl1 hl2 hl hu1 hu2 hu hl0 hu0 hz1 hz2).mono ?_
      rintro e w2 ⟨x2, rfl, hx2, hb2⟩
      have hc2 := hd.trans (hb2.mono hd.size)
      try show K _ _
      refine hK.out _ _ (Or.inr (hS _ hc2)) ?_
      clear hK K
      try simp only [Act.put, List.setIfInBounds_toArray, List.set_cons_zero, List.set_cons_succ]
      refine late_one (i := 10) rfl (by kernel_rfl) ?_
      intro K hK
      go_simp
      refine (plus_r _ (l1 + l2) (u1 + u2) x x2 _ _ (hxr.below hc2) hx2 hl hl0 hu0 hu hbnd).mono ?_
      rintro e w3 ⟨xn, rfl, hx3, hb3⟩
      have hc3 := hc2.trans (hb3.mono hc2.size)
      try show K _ _
      refine hK.out _ _ (Or.inr (hS _ hc3)) ?_
      clear hK K
      try simp only [Act.put, List.setIfInBounds_toArray, List.set_cons_zero, List.set_cons_succ]
      refine late_one (i := 11) rfl (by kernel_rfl) ?_
      intro K hK
      have hb3' := hx.below hc3
      obtain ⟨p0, p1, p2⟩ := hb3'.cells
      have hfr := fun j => frozen_of_row w3 bs j _ _ hb3'
      go_simp
      try show K _ _
      refine hK.out _ _ (Or.inl (by decide)) ?_
      clear hK K
      try simp only [Act.put, List.setIfInBounds_toArray, List.set_cons_zero, List.set_cons_succ]
      refine late_done (by kernel_rfl) ?_ _
      obtain ⟨n1, n2⟩ := hb3'.put xn
      have hx9 := hx3.far n2 (fun g e => by cases e; exact hb3'.typed) (by decide)
      have hB9 := (hB.trans (hc3.mono hB.size)).trans (below_row n2 hbs (hB.trans (hc3.mono hB.size)).size)
      clear hS hy1 hy2 hbnd hb2 hb3 hc2 hc3 p0 p1 p2 hfr n2 a1 a2 a3 b1 b2 b3
      go_wp2_with fail
      go_roundw
      case rel => exact ⟨k + 1, _, by omega, by go_num, n1, (by rw [HS.out]; exact hx9), hB9⟩
      case measure => simp [intOf]; omega
    · obtain rfl : k = n := by omega
      have hlt' : decide ((k : Int) < (k : Nat)) = false := by simp
      have hR := hRes.below hB
      obtain ⟨s0, s1, s2⟩ := hx.cells
      obtain ⟨r0, r1, r2⟩ := hR.cells
      have hfr := fun j => frozen_of_row wr _ j _ _ hR
      have hput := hR.put x
      have HX := Lib.hid hxr
      clear hxr
      go_wp2_with fail
      obtain ⟨c0, c1, c2⟩ := hput.1.cells
      refine bodyPost_ret (v := .agg #[.bool x.neg, .slice x.A x.n x.cap, .int .i64 x.E]) (by simp [results, Tryz.results41, go_sem, c0, c1, c2]) rfl ?_
      exact ⟨x, rfl, HX.out.far hput.2 (fun g e => by cases e; exact hR.typed) (by decide), (hb0.trans (hB.mono hb0.size)).trans (below_row hput.2 (Nat.le_refl _) (hb0.trans (hB.mono hb0.size)).size)⟩
end Go.Proofs.YtpfbgenefjhcjaaGreatDoor
