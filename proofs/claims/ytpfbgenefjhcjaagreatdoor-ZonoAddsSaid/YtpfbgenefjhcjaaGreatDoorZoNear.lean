/- ambitref10.Near: a real rounded, and what was lost of it. -/
import Derived.Test.YtpfbgenefjhcjaaGreatDoorZoColumn
namespace Go.Proofs.YtpfbgenefjhcjaaGreatDoor
set_option linter.unusedVariables false
set_option linter.unusedSimpArgs false
open Go Go.RowKit
set_option maxRecDepth 100000
theorem NumIs.wideR {w : World} {ng : Bool} {A : Option Addr} {n cap : Nat} {E z : Int} (h : NumIs w ng (.slice A n cap) E z) : NumR (-2212) 5000 w ⟨ng, A, n, cap, E⟩ z := by
 obtain ⟨M, h1, h2, h3, h4, h5⟩ := NumIs.def'.1 h
 exact ⟨h, h3, h4⟩
def TellsNear (w : World) (z : Int) (u : Nat) (ok : Bool) (e : Ending) (w' : World) : Prop := ∃ y : NV, e = .returned (.tuple #[.int .u64 ((if ok = true then u else 0 : Nat) : Int), .agg #[.bool y.neg, .slice y.A y.n y.cap, .int .i64 y.E], .bool ok]) ∧ (ok = true → NumR (-2212) 5000 w' y (zabs (z - fz u))) ∧ Below w.heap.size w w'
theorem TellsNear.no {w : World} {z : Int} {u : Nat} {e : Ending} {w' : World} (h : TellsNear w z u false e w') : ∃ y : NV, e = .returned (.tuple #[.int .u64 0, .agg #[.bool y.neg, .slice y.A y.n y.cap, .int .i64 y.E], .bool false]) ∧ Below w.heap.size w w' := by
 obtain ⟨y, h1, _, h3⟩ := h
 exact ⟨y, h1, h3⟩
set_option maxHeartbeats 4000000 in
theorem near_any (w : World) (x : NV) (z : Int) (h : NumR (-2212) 5000 w x z) (hz : z.natAbs ≤ 2 * FB) :
  Calls Tryz.prog 128 #[.agg #[.bool x.neg, .slice x.A x.n x.cap, .int .i64 x.E]] w fun e w' => TellsNear w z (roundS 0 (some z)).1 (roundS 0 (some z)).2 e w' := by
 obtain ⟨f0, f1, f2, f3⟩ := two_blocks w (.cells #[.bool x.neg, .slice x.A x.n x.cap, .int .i64 x.E] 70) (.cells #[.bool false, .slice none 0 0, .int .i64 0] 70)
 have hr := round_r _ 0 _ _ x z (h.below f3) (by decide) (by decide)
 have hnum := near_num z
 have hx := h.below f3
 obtain ⟨u, ok, hp⟩ : ∃ u ok, roundS 0 (some z) = (u, ok) := ⟨_, _, rfl⟩
 rw [hp] at hr hnum ⊢
 dsimp only at hr hnum ⊢
 have HN := Lib.hid hnum
 clear hp hnum
 have k0 : NumB _ w.heap.size x := f0
 have k1 : NumB _ (w.heap.size + 1) ⟨false, none, 0, 0, 0⟩ := f1
 obtain ⟨c0, c1, c2⟩ := k0.cells
 go_enter Tryz.func128, Tryz.ntmps128
 go_wp2_with fail
 refine hr.mono ?_
 rintro e w2 ⟨rfl, hb2⟩
 replace k0 := k0.below hb2
 replace k1 := k1.below hb2
 have hB := f3.trans (hb2.mono f3.size)
 replace hx := hx.below hb2
 have hlo : w.heap.size + 1 + 1 ≤ w2.heap.size := by have := hb2.size; omega
 clear hr f0 f1 f2 f3 c0 c1 c2 hb2
 cases ok with
 | false =>
  obtain ⟨d0, d1, d2⟩ := k1.cells
  have hfr := fun j => frozen_of_row w2 _ j _ _ k1
  go_wp2_with fail
  obtain ⟨q1, q2⟩ := k1.put ⟨false, none, 0, 0, 0⟩
  obtain ⟨e0, e1, e2⟩ := q1.cells
  refine bodyPost_ret (v := .tuple #[.int .u64 0, .agg #[.bool false, .slice none 0 0, .int .i64 0], .bool false]) (by simp [results, Tryz.results128, go_sem, e0, e1, e2]) rfl ?_
  exact ⟨⟨false, none, 0, 0, 0⟩, rfl, (fun h => by cases h), hB.trans (below_row q2 (by omega) hB.size)⟩
 | true =>
  have hof := ofF u HN.out.1 w2 HN.out.2.1
  go_wp2_with fail
  refine hof.mono ?_
  rintro e w3 ⟨y, rfl, hy, hb3⟩
  have hba := below_alloc w3 (.cells #[.bool y.neg, .slice y.A y.n y.cap, .int .i64 y.E] 70)
  have kY : NumB (w3.alloc (.cells #[.bool y.neg, .slice y.A y.n y.cap, .int .i64 y.E] 70)) w3.heap.size y := heap_alloc_new w3 _
  have hb4 := hb3.trans (hba.mono hb3.size)
  replace k0 := k0.below hb4
  replace k1 := k1.below hb4
  have hB4 := hB.trans (hb4.mono hB.size)
  replace hx := hx.below hb4
  have hy4 := (hy.below hba).wide (lo' := -2212) (hi' := 5000) (by decide) (by decide)
  have hl4 : w.heap.size + 1 + 1 ≤ w3.heap.size := by have := hb3.size; omega
  clear hof hy hb3 hba hb4 hB hlo
  obtain ⟨c0, c1, c2⟩ := k0.cells
  obtain ⟨d0, d1, d2⟩ := kY.cells
  have hcap : (z + -fz u).natAbs < W32 ^ 400 := by
   have h1 := fz_lt u HN.out.1
   refine few_W _ 3 (by decide) (Nat.le_trans ?_ (Nat.mul_le_mul_left _ FB_le_PB))
   omega
  have hmi := minus_r _ _ _ x y z (fz u) hx hy4 hcap
  go_upto_region 5 with fail
  generalize w3.alloc (.cells #[.bool y.neg, .slice y.A y.n y.cap, .int .i64 y.E] 70) = w4 at *
  clear hcap
  go_wp2_with fail
  refine hmi.mono ?_
  rintro e w5 ⟨ng, A, n, cap, E, rfl, hd, hb5⟩
  have hsz := size_r w5 _ _ ⟨ng, A, n, cap, E⟩ _ hd.wideR
  dsimp only at hsz
  clear c0 c1 c2 d0 d1 d2 hmi hx hy4
  go_wp2_with fail
  refine hsz.mono ?_
  rintro e w6 ⟨s, rfl, hs, hb6⟩
  have k1' := (k1.below hb5).below hb6
  have hB6 := (hB4.trans (hb5.mono hB4.size)).trans (hb6.mono (hB4.trans (hb5.mono hB4.size)).size)
  have hl6 : w.heap.size + 1 < w6.heap.size := k1'.lt
  obtain ⟨d0, d1, d2⟩ := k1'.cells
  have hfr := fun j => frozen_of_row w6 _ j _ _ k1'
  clear hsz hd
  go_wp2_with fail
  obtain ⟨q1, q2⟩ := k1'.put s
  obtain ⟨e0, e1, e2⟩ := q1.cells
  refine bodyPost_ret (v := .tuple #[.int .u64 (u : Nat), .agg #[.bool s.neg, .slice s.A s.n s.cap, .int .i64 s.E], .bool true]) (by simp [results, Tryz.results128, go_sem, e0, e1, e2]) rfl ?_
  exact ⟨s, rfl, fun _ => hs.far q2 (fun g e => by cases e; exact k1'.typed) (by decide), hB6.trans (below_row q2 (by omega) hB6.size)⟩
end Go.Proofs.YtpfbgenefjhcjaaGreatDoor
