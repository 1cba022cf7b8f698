/-
 law10.started: what is fixed by the examples.
-/
import Derived.Test.YtpfbgenefjhcjaaGreatDoorPZoLif
import Derived.Test.YtpfbgenefjhcjaaGreatDoorPZoSam
import Derived.Test.YtpfbgenefjhcjaaGreatDoorPZoHel
namespace Go.Proofs.YtpfbgenefjhcjaaGreatDoor
set_option linter.unusedVariables false
set_option linter.unusedSimpArgs false
open Go Go.RowKit
set_option maxRecDepth 100000
attribute [local go_sem] run_store_flt
def liftedZ : ZD := ⟨2, [4607182418800017408, 4611686018427387904], [0, 3, 4], [[4607182418800017408, 0], [4607182418800017408, 13830554455654793216], [0, 4602678819172646912]], [0, 0], false⟩
theorem lift_first : liftD firstZ 4 = (liftedZ, 5) := by kernel_rfl
theorem supp_first : supD firstZ [4607182418800017408, 4607182418800017408] = (4616752568008179712, true) := by decide +kernel
theorem bnds_first : bndsD firstZ = [⟨13830554455654793216, 4613937818241073152, false⟩, ⟨4602678819172646912, 4615063718147915776, false⟩] := by kernel_rfl
theorem lifted_good : goodD liftedZ = true := by decide +kernel
theorem same_first : sameG firstZ firstZ = true := by decide +kernel
theorem same_lifted : sameG firstZ liftedZ = false := by decide +kernel
theorem chk_first : chkD firstZ = 0 := by decide +kernel
def twoZ : ZD := ⟨2, [], [], [], [], false⟩
theorem chk_two : chkD twoZ = 100 := by decide +kernel
theorem lifted_ok : ZOk liftedZ := by
 constructor
 ·intro u hu; simp [liftedZ] at hu; rcases hu with rfl | rfl <;> decide
 ·intro u hu; simp [liftedZ] at hu; subst hu; decide
 ·intro g hg; simp [liftedZ] at hg; rcases hg with rfl | rfl | rfl <;> exact ⟨by intro u hu; simp at hu; rcases hu with rfl | rfl <;> decide, by decide⟩
 ·decide
 ·decide
 ·decide
 ·decide
 ·decide
 ·decide
 ·intro i hi; simp [liftedZ] at hi; rcases hi with rfl | rfl | rfl <;> decide
theorem two_ok : ZOk twoZ := by
 constructor
 ·intro u hu; simp [twoZ] at hu
 ·intro u hu; simp [twoZ] at hu
 ·intro g hg; simp [twoZ] at hg
 ·decide
 ·decide
 ·decide
 ·decide
 ·decide
 ·decide
 ·intro i hi; simp [twoZ] at hi
theorem two_is (w : World) : ZIs w (.agg #[.int .i64 2, .slice none 0 0, .slice none 0 0, .slice none 0 0, .slice none 0 0, .bool false]) twoZ :=
 ⟨none, none, none, none, 0, 0, 0, 0, rfl, R1.nil _ _ _, R1.nil _ _ _, fun k g hg => by simp [twoZ] at hg, R1.nil _ _ _, ⟨Nat.le_refl _, Nat.zero_le _, fun _ => rfl⟩, ⟨Nat.le_refl _, Nat.zero_le _, fun _ => rfl⟩, ⟨Nat.le_refl _, Nat.zero_le _, fun _ => rfl⟩, ⟨Nat.le_refl _, Nat.zero_le _, fun _ => rfl⟩⟩
theorem span_eq (w : World) : (binOp .eql 74 (.agg #[.float .f64 13830554455654793216, .float .f64 4613937818241073152, .bool false]) (.agg #[.float .f64 13830554455654793216, .float .f64 4613937818241073152, .bool false])).run Tryz.prog w = .ok (.bool true) w := by kernel_rfl
theorem ord45 : FloatKind.f64.format.order 4616752568008179712 4616752568008179712 = some .eq := by decide +kernel
theorem ones_row {w : World} {b : Nat} (h : w.heap[b]? = some (.cells #[.float .f64 4607182418800017408, .float .f64 4607182418800017408] 43 (0, 0))) : FR w (some ⟨b, 0, none⟩) [4607182418800017408, 4607182418800017408] := row2 (c := cF) h
set_option maxHeartbeats 4000000 in
theorem started_any (w : World) : Calls Tryz.prog 22 #[] w fun e w' => e = .returned (.bool true) ∧ Below w.heap.size w w' := by
 go_enter Tryz.func22, Tryz.ntmps22
 go_wp2_with fail
 refine (first_any _).mono ?_
 rintro e w1 ⟨v, rfl, hv, hb1⟩
 obtain ⟨A, B, C, D, kA, kB, kC, kD, rfl, hc⟩ := hv
 rw [show zval firstZ A B C D kA kB kC kD = .agg #[.int .i64 2, .slice A 2 kA, .slice B 2 kB, .slice C 2 kC, .slice D 2 kD, .bool false] from rfl]
 obtain ⟨f0, f1, f2, f3⟩ := two_blocks w1 (.cells #[.int .i64 2, .slice A 2 kA, .slice B 2 kB, .slice C 2 kC, .slice D 2 kD, .bool false] 26) (.cells #[.float .f64 4607182418800017408, .float .f64 4607182418800017408] 43)
 have hs : Calls Tryz.prog 25 #[.agg #[.int .i64 2, .slice A 2 kA, .slice B 2 kB, .slice C 2 kC, .slice D 2 kD, .bool false], .slice (some ⟨w1.heap.size + 1, 0, none⟩) 2 2] _ _ := support_any _ _ firstZ (some ⟨w1.heap.size + 1, 0, none⟩) 2 [4607182418800017408, 4607182418800017408] ⟨A, B, C, D, kA, kB, kC, kD, rfl, hc.below f3⟩ first_ok (ones_row f1) (by intro u hu; simp at hu; subst hu; decide) (by decide)
 rw [supp_first] at hs
 have hb2 := hb1.trans (f3.mono hb1.size)
 have hc2 := hc.below f3
 go_wp2_with fail
 refine hs.mono ?_
 rintro e w2 ⟨rfl, hb⟩
 have g0 := (hb.block _ (by omega)).trans f0
 have hb3 := hb2.trans (hb.mono hb2.size)
 have hc3 := hc2.below hb
 have hsz := hb.size
 rw [f2] at hsz
 clear f0 f1 f2 f3 hs hb hb2 hc2
 obtain ⟨x0, x1, x2, x3, x4, x5⟩ := cells6 g0
 have hbd : Calls Tryz.prog 24 #[.agg #[.int .i64 2, .slice A 2 kA, .slice B 2 kB, .slice C 2 kC, .slice D 2 kD, .bool false]] w2 _ := bounds_any w2 _ firstZ ⟨A, B, C, D, kA, kB, kC, kD, rfl, hc3⟩ first_ok
 rw [bnds_first] at hbd
 go_wp2_with fail
 refine hbd.mono ?_
 rintro e w3 ⟨A3, c3, rfl, hS3, h3a, h3b, hb⟩
 have g1 := (hb.block w1.heap.size (by omega)).trans g0
 have hb4 := hb3.trans (hb.mono hb3.size)
 have hc4 := hc3.below hb
 have hsz4 := Nat.le_trans hsz hb.size
 clear x0 x1 x2 x3 x4 x5 hb hbd hb3 hc3 g0 hsz
 obtain ⟨x0, x1, x2, x3, x4, x5⟩ := cells6 g1
 have hlf : Calls Tryz.prog 43 #[.agg #[.int .i64 2, .slice A 2 kA, .slice B 2 kB, .slice C 2 kC, .slice D 2 kD, .bool false], .int .i64 4] w3 _ := Lift_any w3 _ firstZ 4 ⟨A, B, C, D, kA, kB, kC, kD, rfl, hc4⟩ first_ok (by decide)
 rw [lift_first] at hlf
 change Calls _ _ _ w3 (fun e w' => TellsLift w3 (liftedZ, 5) e w') at hlf
 go_wp2_with fail
 refine hlf.mono ?_
 rintro e w4 ⟨v4, rfl, hv4, hb⟩
 obtain ⟨A', B', C', D', kA', kB', kC', kD', rfl, hy⟩ := hv4.is
 obtain ⟨bi, oi, rfl, hbi, pi⟩ := hy.ids.at (Below.refl _ _) 2 4 rfl
 rw [show zval liftedZ A' (some ⟨bi, oi, none⟩) C' D' kA' kB' kC' kD' = .agg #[.int .i64 2, .slice A' 2 kA', .slice (some ⟨bi, oi, none⟩) 3 kB', .slice C' 3 kC', .slice D' 2 kD', .bool false] from rfl]
 go_upto_region 5 with fail
 have g2 := (hb.block w1.heap.size (by omega)).trans g1
 have hby := below_alloc w4 (.cells #[.int .i64 2, .slice A' 2 kA', .slice (some ⟨bi, oi, none⟩) 3 kB', .slice C' 3 kC', .slice D' 2 kD', .bool false] 26)
 have k0 := (hby.block _ (Array.getElem?_eq_some_iff.1 g2).1).trans g2
 have ky := heap_alloc_new w4 (.cells #[.int .i64 2, .slice A' 2 kA', .slice (some ⟨bi, oi, none⟩) 3 kB', .slice C' 3 kC', .slice D' 2 kD', .bool false] 26)
 have hc5 := (hc4.below hb).below hby
 have hy5 := hy.below hby
 have hS5 := (hS3.below hb).below hby
 have hb5 := (hb4.trans (hb.mono hb4.size)).trans (hby.mono (hb4.trans (hb.mono hb4.size)).size)
 obtain ⟨bs, rfl, hbs, p0, p1, p2⟩ := hS5 0 _ rfl
 have pi' : (w4.alloc (.cells #[.int .i64 2, .slice A' 2 kA', .slice (some ⟨bi, oi, none⟩) 3 kB', .slice C' 3 kC', .slice D' 2 kD', .bool false] 26)).cell? ⟨bi, oi + 2, none⟩ = some (.int .i64 4) := (hby.cell (p := ⟨bi, oi + 2, none⟩) hbi).trans pi
 clear g1 g2 hc4 hS3 hb hb4 hlf hv4 hsz4 x0 x1 x2 x3 x4 x5 hy hby pi hS5
 have hse := span_eq
 have ho45 := ord45
 generalize hW5 : w4.alloc (.cells #[.int .i64 2, .slice A' 2 kA', .slice (some ⟨bi, oi, none⟩) 3 kB', .slice C' 3 kC', .slice D' 2 kD', .bool false] 26) = W5 at *
 obtain ⟨x0, x1, x2, x3, x4, x5⟩ := cells6 k0
 obtain ⟨y0, y1, y2, y3, y4, y5⟩ := cells6 ky
 have hF : ∀ W, Below W5.heap.size W5 W → ZIs W (.agg #[.int .i64 2, .slice A 2 kA, .slice B 2 kB, .slice C 2 kC, .slice D 2 kD, .bool false]) firstZ := fun W hb => ⟨A, B, C, D, kA, kB, kC, kD, rfl, hc5.below hb⟩
 have hck := Check_any W5 _ firstZ (hF W5 (Below.refl _ _)) first_ok
 rw [chk_first] at hck
 go_wp2_with fail
 refine hck.mono ?_
 rintro e w6 ⟨rfl, hb6⟩
 clear x0 x1 x2 x3 x4 x5 y0 y1 y2 y3 y4 y5 p0 p1 p2 pi' hck hse ho45 hW5
 have hc2' := Check_any w6 _ twoZ (two_is w6) two_ok
 rw [chk_two] at hc2'
 go_wp2_with (first | (go_at_call 18; refine (num_any _ _).mono ?_; rintro e w' ⟨rfl, rfl⟩))
 refine hc2'.mono ?_
 rintro e w7 ⟨rfl, hb7⟩
 have hb57 := hb6.trans (hb7.mono hb6.size)
 have l0 := (hb57.block _ (Array.getElem?_eq_some_iff.1 k0).1).trans k0
 obtain ⟨x0, x1, x2, x3, x4, x5⟩ := cells6 l0
 have hsm := same_good w7 A B C D A B C D kA kB kC kD kA kB kC kD firstZ firstZ (hc5.below hb57) (hc5.below hb57) first_ok first_ok ((goodD_iff _).1 first_good) ((goodD_iff _).1 first_good)
 rw [same_first] at hsm
 change Calls _ _ #[.agg #[.int .i64 2, .slice A 2 kA, .slice B 2 kB, .slice C 2 kC, .slice D 2 kD, .bool false], .agg #[.int .i64 2, .slice A 2 kA, .slice B 2 kB, .slice C 2 kC, .slice D 2 kD, .bool false]] w7 _ at hsm
 clear hc2' hb6 hb7
 go_wp2_with (first | (go_at_call 18; refine (num_any _ _).mono ?_; rintro e w' ⟨rfl, rfl⟩))
 refine hsm.mono ?_
 rintro e w8 ⟨rfl, hb8⟩
 have hb58 := hb57.trans (hb8.mono hb57.size)
 clear x0 x1 x2 x3 x4 x5 l0 hsm hb8
 have l0 := (hb58.block _ (Array.getElem?_eq_some_iff.1 k0).1).trans k0
 have ly := (hb58.block _ (Array.getElem?_eq_some_iff.1 ky).1).trans ky
 obtain ⟨x0, x1, x2, x3, x4, x5⟩ := cells6 l0
 obtain ⟨y0, y1, y2, y3, y4, y5⟩ := cells6 ly
 have hsn := same_good w8 A B C D A' (some ⟨bi, oi, none⟩) C' D' kA kB kC kD kA' kB' kC' kD' firstZ liftedZ (hc5.below hb58) (hy5.below hb58) first_ok lifted_ok ((goodD_iff _).1 first_good) ((goodD_iff _).1 lifted_good)
 rw [same_lifted] at hsn
 change Calls _ _ #[.agg #[.int .i64 2, .slice A 2 kA, .slice B 2 kB, .slice C 2 kC, .slice D 2 kD, .bool false], .agg #[.int .i64 2, .slice A' 2 kA', .slice (some ⟨bi, oi, none⟩) 3 kB', .slice C' 3 kC', .slice D' 2 kD', .bool false]] w8 _ at hsn
 go_wp2_with fail
 refine hsn.mono ?_
 rintro e w9 ⟨rfl, hb9⟩
 clear x0 x1 x2 x3 x4 x5 y0 y1 y2 y3 y4 y5 l0 ly hsn
 go_wp2_with fail
 go_ret
 exact ⟨rfl, hb5.trans ((hb58.trans (hb9.mono hb58.size)).mono hb5.size)⟩
end Go.Proofs.YtpfbgenefjhcjaaGreatDoor
