/-
  ambitref4.Of, ambitref4.Same, law10.sameSpans: spans by their bits.
  ambitref10.Bounds.
-/
import Derived.Test.YtpfbgenefjhcjaaGreatDoorPZoRct
import Derived.Test.YtpfbgenefjhcjaaGreatDoorPZoHel
namespace Go.Proofs.YtpfbgenefjhcjaaGreatDoor
set_option linter.unusedVariables false
set_option linter.unusedSimpArgs false
open Go Go.RowKit
set_option maxRecDepth 100000
attribute [local go_sem] run_store_flt
def spanU (s : SD) : Value := .agg #[.int .u64 (s.lo : Int), .int .u64 (s.hi : Int), .bool s.bad]
def TellsSU (w : World) (s : SD) (e : Ending) (w' : World) : Prop := e = .returned (.agg #[.int .u64 (s.lo : Int), .int .u64 (s.hi : Int), .bool s.bad]) ∧ Below w.heap.size w w'
theorem bad4_any (w : World) : Calls Tryz.prog 122 #[] w fun e w' => e = .returned (.agg #[.int .u64 0, .int .u64 0, .bool true]) ∧ Below w.heap.size w w' := by
  go_enter Tryz.func122, Tryz.ntmps122
  go_wp2_with fail
  have hx := heap_alloc_new w (.cells #[.int .u64 0, .int .u64 0, .bool true] 130)
  obtain ⟨c0, c1, c2⟩ := cells3' hx
  refine bodyPost_ret (v := .agg #[.int .u64 0, .int .u64 0, .bool true]) (by simp [results, Tryz.results122, go_sem, c0, c1, c2]) rfl ?_
  exact ⟨rfl, below_alloc _ _⟩
set_option maxHeartbeats 4000000 in
theorem Of4_any (w : World) (x y : NV) (p q : Int) (hx : NumIs w x.neg (.slice x.A x.n x.cap) x.E p) (hy : NumIs w y.neg (.slice y.A y.n y.cap) y.E q) :
    Calls Tryz.prog 81 #[.agg #[.bool x.neg, .slice x.A x.n x.cap, .int .i64 x.E], .agg #[.bool y.neg, .slice y.A y.n y.cap, .int .i64 y.E]] w fun e w' => TellsSU w (spanD p q) e w' := by
  unfold TellsSU
  obtain ⟨f0, f1, f2, f3, f4⟩ := three_blocks w (.cells #[.bool x.neg, .slice x.A x.n x.cap, .int .i64 x.E] 70) (.cells #[.bool y.neg, .slice y.A y.n y.cap, .int .i64 y.E] 70) (.cells #[.int .u64 0, .int .u64 0, .bool false] 130)
  have hr1 := refRound_any _ 2 _ _ _ p (hx.below f4) (by decide) (by decide)
  have hr2' := fun w1 (hb : Below w.heap.size w w1) => refRound_any w1 1 _ _ _ q (hy.below hb) (by decide) (by decide)
  unfold spanD
  generalize roundS 2 (some p) = P1 at hr1 ⊢
  obtain ⟨a, ok⟩ := P1
  generalize roundS 1 (some q) = P2 at hr2' ⊢
  obtain ⟨b, is⟩ := P2
  have HP : Hid ((ok && is) = false → (if (ok && is) = true then (⟨a, b, false⟩ : SD) else ⟨0, 0, true⟩) = ⟨0, 0, true⟩) := Lib.hid (fun h => by rw [h]; rfl)
  have HQ : Hid ((ok && is) = true → (if (ok && is) = true then (⟨a, b, false⟩ : SD) else ⟨0, 0, true⟩) = ⟨a, b, false⟩) := Lib.hid (fun h => by rw [h]; rfl)
  dsimp only at hr1 hr2' ⊢
  generalize (if (ok && is) = true then (⟨a, b, false⟩ : SD) else ⟨0, 0, true⟩) = S0 at *
  obtain ⟨x0, x1, x2⟩ := cells3' f0
  go_enter Tryz.func81, Tryz.ntmps81
  go_wp2_with fail
  refine hr1.mono ?_
  rintro e w1 ⟨rfl, hb⟩
  have hb1 := f4.trans (hb.mono f4.size)
  have g1 := (hb.block _ (by omega)).trans f1
  have g2 := (hb.block _ (by omega)).trans f2
  have hr2 := hr2' w1 hb1
  clear hr2'
  clear x0 x1 x2 f0 f1 f2 f3 f4 hr1 hb
  obtain ⟨x0, x1, x2⟩ := cells3' g1
  go_wp2_with fail
  refine hr2.mono ?_
  rintro e w2 ⟨rfl, hb⟩
  have k2 := (hb.block _ (Array.getElem?_eq_some_iff.1 g2).1).trans g2
  have hb2 := hb1.trans (hb.mono hb1.size)
  clear x0 x1 x2 hr2 hb g1 g2
  have bad : ∀ w3, Below w2.heap.size w2 w3 → w3.heap[w.heap.size + 1 + 1]? = some (.cells #[.int .u64 0, .int .u64 0, .bool false] 130 (0, 0)) ∧ Below w.heap.size w w3 := fun w3 hb => ⟨(hb.block _ (Array.getElem?_eq_some_iff.1 k2).1).trans k2, hb2.trans (hb.mono hb2.size)⟩
  cases ok with
  | false =>
    have HS := Lib.hid (HP.out rfl)
    clear HP HQ
    go_wp2_with fail
    refine (bad4_any _).mono ?_
    rintro e w3 ⟨rfl, hb⟩
    obtain ⟨k3, hb3⟩ := bad w3 hb
    obtain ⟨y0, y1, y2⟩ := cells3' k3
    have hfr := fun j => frozen_of_row w3 _ j _ _ k3
    clear k2 hb bad
    go_wp2_with fail
    obtain ⟨q1, q2⟩ := set3 k3 (.int .u64 0) (.int .u64 0) (.bool true)
    obtain ⟨c0, c1, c2⟩ := cells3' q1
    refine bodyPost_ret (v := .agg #[.int .u64 0, .int .u64 0, .bool true]) (by simp [results, Tryz.results81, go_sem, c0, c1, c2]) rfl ?_
    rw [HS.out]
    exact ⟨rfl, hb3.trans (below_row q2 (by omega) hb3.size)⟩
  | true =>
    cases is with
    | false =>
      have HS := Lib.hid (HP.out rfl)
      clear HP HQ
      go_wp2_with fail
      refine (bad4_any _).mono ?_
      rintro e w3 ⟨rfl, hb⟩
      obtain ⟨k3, hb3⟩ := bad w3 hb
      obtain ⟨y0, y1, y2⟩ := cells3' k3
      have hfr := fun j => frozen_of_row w3 _ j _ _ k3
      clear k2 hb bad
      go_wp2_with fail
      obtain ⟨q1, q2⟩ := set3 k3 (.int .u64 0) (.int .u64 0) (.bool true)
      obtain ⟨c0, c1, c2⟩ := cells3' q1
      refine bodyPost_ret (v := .agg #[.int .u64 0, .int .u64 0, .bool true]) (by simp [results, Tryz.results81, go_sem, c0, c1, c2]) rfl ?_
      rw [HS.out]
      exact ⟨rfl, hb3.trans (below_row q2 (by omega) hb3.size)⟩
    | true =>
      have HS := Lib.hid (HQ.out rfl)
      clear HP HQ
      obtain ⟨y0, y1, y2⟩ := cells3' k2
      have hfr := fun j => frozen_of_row w2 _ j _ _ k2
      clear bad
      go_wp2_with fail
      obtain ⟨q1, q2⟩ := set3 k2 (.int .u64 a) (.int .u64 b) (.bool false)
      obtain ⟨c0, c1, c2⟩ := cells3' q1
      refine bodyPost_ret (v := .agg #[.int .u64 a, .int .u64 b, .bool false]) (by simp [results, Tryz.results81, go_sem, c0, c1, c2]) rfl ?_
      rw [HS.out]
      exact ⟨rfl, hb2.trans (below_row q2 (by omega) hb2.size)⟩
set_option maxHeartbeats 4000000 in
theorem Same4_yes (w : World) (s : SD) : Calls Tryz.prog 79 #[.agg #[.float .f64 s.lo, .float .f64 s.hi, .bool s.bad], .agg #[.int .u64 (s.lo : Int), .int .u64 (s.hi : Int), .bool s.bad]] w fun e w' => e = .returned (.bool true) ∧ Below w.heap.size w w' := by
  obtain ⟨f0, f1, f2, f3⟩ := two_blocks w (.cells #[.float .f64 s.lo, .float .f64 s.hi, .bool s.bad] 74) (.cells #[.int .u64 (s.lo : Int), .int .u64 (s.hi : Int), .bool s.bad] 130)
  obtain ⟨x0, x1, x2⟩ := cells3' f0
  obtain ⟨y0, y1, y2⟩ := cells3' f1
  have h1 := bits_nat s.lo
  have h2 := bits_nat s.hi
  go_enter Tryz.func79, Tryz.ntmps79
  go_wp2_with fail
  go_quiet (first | (go_at_call 30; exact Calls.quiet_of_same (h1 _)) | (go_at_call 30; exact Calls.quiet_of_same (h2 _)))
  go_wp2_with fail
  go_ret
  exact ⟨rfl, below_drewN' f3 _⟩
/-- A list of spans by their bits. -/
def SUR (w : World) (A : Option Addr) (ss : List SD) : Prop := ∀ (j : Nat) (s : SD), ss[j]? = some s → ∃ g o : Nat, A = some ⟨g, o, none⟩ ∧ g < w.heap.size ∧ w.cell? ⟨g, o + j * 3, none⟩ = some (.int .u64 (s.lo : Int)) ∧ w.cell? ⟨g, o + j * 3 + 1, none⟩ = some (.int .u64 (s.hi : Int)) ∧ w.cell? ⟨g, o + j * 3 + 2, none⟩ = some (.bool s.bad)
theorem SUR.below {w w1 : World} {A : Option Addr} {ss : List SD} (h : SUR w A ss) (hb : Below w.heap.size w w1) : SUR w1 A ss := fun j s hs => by
  obtain ⟨g, o, h1, h2, h3, h4, h5⟩ := h j s hs
  exact ⟨g, o, h1, Nat.lt_of_lt_of_le h2 hb.size, (hb.cell (p := ⟨g, o + j * 3, none⟩) h2).trans h3, (hb.cell (p := ⟨g, o + j * 3 + 1, none⟩) h2).trans h4, (hb.cell (p := ⟨g, o + j * 3 + 2, none⟩) h2).trans h5⟩
set_option maxHeartbeats 4000000 in
theorem sameSpans_yes (w : World) (A B : Option Addr) (ca cb : Nat) (ss : List SD) (n : Nat) (hn : ss.length = n) (h : SpR w A ss) (h' : SUR w B ss) (hl : n ≤ 1000) :
    Calls Tryz.prog 28 #[.slice A n ca, .slice B n cb] w fun e w' => e = .returned (.bool true) ∧ Below w.heap.size w w' := by
  have HN := Lib.hid hn
  clear hn
  go_enter Tryz.func28, Tryz.ntmps28
  go_wp2_with fail
  go_loopw [5] (fun kk wr => ∃ k : Nat, k ≤ n ∧ kk = .int .i64 (k : Nat) ∧ Below w.heap.size w wr) (fun kk _ => n - (intOf kk).toNat)
  case atStart => exact ⟨0, Nat.zero_le _, rfl, Below.refl _ _⟩
  case round =>
    obtain ⟨k, hk, rfl, hb⟩ := hrel
    by_cases hlt : k < n
    · have hlt' : (k : Int) < (n : Int) := by omega
      obtain ⟨s, hs⟩ : ∃ s, ss[k]? = some s := ⟨ss[k]'(by have := HN.out; omega), List.getElem?_eq_getElem _⟩
      obtain ⟨g, rfl, hg, c0, c1, c2⟩ := (h.below hb) k s hs
      obtain ⟨g', o', rfl, hg', d0, d1, d2⟩ := (h'.below hb) k s hs
      have hsm := Same4_yes wr.drew s
      clear hs
      go_wp2_with fail
      go_still_tail 8, (by kernel_rfl)
      change wpList _ _ _ _ _ wr.drew
      go_wp2_with fail
      refine hsm.mono ?_
      rintro e w7 ⟨rfl, hb7⟩
      clear c0 c1 c2 d0 d1 d2
      go_wp2_with fail
      go_roundw
      case rel => exact ⟨k + 1, by omega, by go_num, hb.drew.trans (hb7.mono hb.drew.size)⟩
      case measure => simp [intOf]; omega
    · obtain rfl : k = n := by omega
      have hlt' : decide (((k : Nat) : Int) < (k : Nat)) = false := by simp
      go_wp2_with fail
      go_ret
      exact ⟨rfl, hb⟩
end Go.Proofs.YtpfbgenefjhcjaaGreatDoor
namespace Go.Proofs.YtpfbgenefjhcjaaGreatDoor
set_option linter.unusedVariables false
set_option linter.unusedSimpArgs false
open Go Go.RowKit
set_option maxRecDepth 100000
section
variable {P : Program} {ops : Array Oper} {Q : Exit → Act → World → Prop} {md : Region.Mode} {S : World → Prop} {lates : List Nat}
/-- Two operations may come up. -/
theorem late_two {i j : Nat} {oi oj : Oper} {n : Nat} {listed : Array Bool} {a : Act} {w : World} (hi : ops[i]? = some oi) (hj : ops[j]? = some oj) (hr : Region.ready md ops listed = [i, j])
    (h1 : ∀ K' : Act → World → Prop, Shut (∀ a w, i ∈ lates ∨ S w → wpLate P md ops Q S lates n (listed.setIfInBounds i true) a w → K' a w) → if Region.wanted oi (yielded ops a.tmps) = true then Oper.wp P oi a w K' Q else K' (a.put oi.dst undef) w)
    (h2 : ∀ K' : Act → World → Prop, Shut (∀ a w, j ∈ lates ∨ S w → wpLate P md ops Q S lates n (listed.setIfInBounds j true) a w → K' a w) → if Region.wanted oj (yielded ops a.tmps) = true then Oper.wp P oj a w K' Q else K' (a.put oj.dst undef) w) :
    wpLate P md ops Q S lates (n + 1) listed a w := by
  refine ⟨fun h0 => (by rw [hr] at h0; cases h0), fun k hk => ?_⟩
  rw [hr] at hk
  rcases List.mem_cons.1 hk with rfl | hk
  · exact wpOp_step hi (fun K' hK => h1 K' (show Shut _ from fun a w h1 h2 => hK a w ⟨h1, h2⟩))
  · obtain rfl : k = j := by simpa using hk
    exact wpOp_step hj (fun K' hK => h2 K' (show Shut _ from fun a w h1 h2 => hK a w ⟨h1, h2⟩))
end
theorem cell_far {w w1 : World} {g j : Nat} {v : Value} {t t' : TypeId} {row : Option Nat} (h : w.cell? ⟨g, j, none⟩ = some v) (ht : Typed w g t) (hg : w.grownBy w1 row) (hr : ∀ g, row = some g → Typed w g t') (hne : t ≠ t') : w1.cell? ⟨g, j, none⟩ = some v :=
  (World.cell?_of_block (a := ⟨g, j, none⟩) (hg.block g ht.lt fun e => Typed.ne ht (hr g e.symm) hne rfl)).trans h
def SUc (s : SD) : List Value := [.int .u64 (s.lo : Int), .int .u64 (s.hi : Int), .bool s.bad]
theorem infoS4 : (Tryz.prog.info? 130).map (fun i => (i.zero, i.size, i.bytes)) = some (some (.agg #[.int .u64 0, .int .u64 0, .bool false]), 3, 24) := by kernel_rfl
theorem OwnG.spans {base : Nat} {w : World} {v : Value} {ss : List SD} (h : OwnG SUc 130 3 w base v ss) : ∃ A cap, v = .slice A ss.length cap ∧ SUR w A ss := by
  rcases h.row with ⟨rfl, rfl⟩ | ⟨g, cap, rfl, hb, hg, hn, hm, hc⟩
  · exact ⟨none, 0, rfl, fun j s hs => by simp at hs⟩
  · refine ⟨_, cap, rfl, fun j s hs => ⟨g, 0, rfl, hg, ?_, ?_, ?_⟩⟩
    · have h1 := flat_get SUc 3 (fun _ => rfl) ss j s hs 0 (by omega)
      rw [show 0 + j * 3 = j * 3 + 0 by omega]
      exact hc _ _ h1
    · have h1 := flat_get SUc 3 (fun _ => rfl) ss j s hs 1 (by omega)
      rw [show 0 + j * 3 + 1 = j * 3 + 1 by omega]
      exact hc _ _ h1
    · have h1 := flat_get SUc 3 (fun _ => rfl) ss j s hs 2 (by omega)
      rw [show 0 + j * 3 + 2 = j * 3 + 2 by omega]
      exact hc _ _ h1
theorem span_W {z : ZD} (h : Good z) (i : Nat) : (fz (z.c.getD i 0) + reachZ z i).natAbs < W32 ^ 400 := by
  have h1 := cent_bound h i
  have h2 := reach_bound h i z.g.length (Nat.le_refl _)
  have h3 := h.cols
  refine few_W _ (2 + z.g.length) (by omega) ?_
  refine Nat.le_trans ?_ (Nat.mul_le_mul_left _ FB_le_PB)
  have e : (2 + z.g.length) * FB = FB + (1 + z.g.length) * FB := by rw [show 2 + z.g.length = 1 + (1 + z.g.length) by omega, Nat.add_mul, Nat.one_mul]
  rw [e]
  unfold reachZ
  generalize (1 + z.g.length) * FB = T at *
  omega
theorem span_W' {z : ZD} (h : Good z) (i : Nat) : (fz (z.c.getD i 0) + -reachZ z i).natAbs < W32 ^ 400 := by
  have h1 := cent_bound h i
  have h2 := reach_bound h i z.g.length (Nat.le_refl _)
  have h3 := h.cols
  refine few_W _ (2 + z.g.length) (by omega) ?_
  refine Nat.le_trans ?_ (Nat.mul_le_mul_left _ FB_le_PB)
  have e : (2 + z.g.length) * FB = FB + (1 + z.g.length) * FB := by rw [show 2 + z.g.length = 1 + (1 + z.g.length) by omega, Nat.add_mul, Nat.one_mul]
  rw [e]
  unfold reachZ
  generalize (1 + z.g.length) * FB = T at *
  omega
def TellsSUR (w : World) (ss : List SD) (e : Ending) (w' : World) : Prop := ∃ A cap, e = .returned (.slice A ss.length cap) ∧ SUR w' A ss ∧ Below w.heap.size w w'
set_option maxHeartbeats 8000000 in
theorem Bounds10_any (w : World) (v : Value) (z : ZD) (h : UIs w v z) (hk : ZOk z) :
    Calls Tryz.prog 29 #[v] w fun e w' => TellsSUR w (bndsD z) e w' := by
  unfold TellsSUR
  obtain ⟨A, B, C, D, kA, kB, kC, kD, rfl, hc⟩ := h
  have hb1 := below_alloc w (.cells #[.int .i64 z.n, .slice A z.c.length kA, .slice B z.ids.length kB, .slice C z.g.length kC, .slice D z.r.length kD, .bool z.bad] 30)
  have hx := heap_alloc_new w (.cells #[.int .i64 z.n, .slice A z.c.length kA, .slice B z.ids.length kB, .slice C z.g.length kC, .slice D z.r.length kD, .bool z.bad] 30)
  have hre := Reals_any _ _ z ⟨A, B, C, D, kA, kB, kC, kD, rfl, hc.below hb1⟩ hk
  obtain ⟨x0, x1, x2, x3, x4, x5⟩ := cells6 hx
  unfold zval at hre ⊢
  go_enter Tryz.func29, Tryz.ntmps29
  go_wp2_with fail
  refine hre.mono ?_
  clear x0 x1 x2 x3 x4 x5
  rintro e w1 (⟨hg, v1, rfl, hr, hb⟩ | ⟨hg, rfl, hb⟩)
  · have hz := (goodD_iff z).1 hg
    have HS := Lib.hid (show bndsD z = bndL z z.n.toNat by unfold bndsD bndL; rw [if_pos hg])
    have hb2 := hb1.trans (hb.mono hb1.size)
    clear hg hre hb hx hc hb1
    obtain ⟨A, B, C, D, kA, kB, kC, kD, rfl, hr⟩ := hr
    have hn1 := hz.n1
    have hn2 := hz.n2
    have hlc := hz.lenC
    obtain ⟨N, hN⟩ : ∃ N : Nat, z.n = (N : Int) := ⟨z.n.toNat, by omega⟩
    have hN256 : N ≤ 256 := by omega
    have HLC := Lib.hid (show z.c.length = N by omega)
    have HN := Lib.hid hN
    rw [hN, Int.toNat_natCast] at HS
    have hb3 := below_alloc w1 (.cells #[.int .i64 (N : Nat), .slice A z.c.length kA, .slice B z.ids.length kB, .slice C z.g.length kC, .slice D z.r.length kD] 61)
    have hx3 := heap_alloc_new w1 (.cells #[.int .i64 (N : Nat), .slice A z.c.length kA, .slice B z.ids.length kB, .slice C z.g.length kC, .slice D z.r.length kD] 61)
    have hr3 := hr.below hb3
    have hb4 := hb2.trans (hb3.mono hb2.size)
    have hbrl : w.heap.size ≤ w1.heap.size := hb2.size
    clear hb2 hb3 hr hlc
    unfold rval
    rw [hN]
    clear hN
    go_upto_region 4 with fail
    generalize w1.alloc (.cells #[.int .i64 (N : Nat), .slice A z.c.length kA, .slice B z.ids.length kB, .slice C z.g.length kC, .slice D z.r.length kD] 61) = W at *
    obtain ⟨br, hbr⟩ : ∃ b, w1.heap.size = b := ⟨_, rfl⟩
    rw [hbr] at hx3 hbrl ⊢
    clear hbr
    go_wp2_with fail
    go_loopw [5, 6] (fun vo kk wr => ∃ i : Nat, i ≤ N ∧ kk = .int .i64 (i : Nat) ∧ OwnG SUc 130 3 wr W.heap.size vo (bndL z i) ∧ Below W.heap.size W wr) (fun _ kk _ => N - (intOf kk).toNat)
    case atStart => exact ⟨0, Nat.zero_le _, rfl, OwnG.nil _ _, Below.refl _ _⟩
    case round =>
      obtain ⟨i, hil, rfl, ho, hBW⟩ := hrel
      have hbx := (hBW.block _ (Array.getElem?_eq_some_iff.1 hx3).1).trans hx3
      have hr := hr3.below hBW
      obtain ⟨x0, x1, x2, x3, x4⟩ := cells5 hbx
      by_cases hlt : i < N
      · have hlt' : (i : Int) < (N : Int) := by omega
        have hic : (i : Int) < (z.c.length : Int) := by have := HLC.out; omega
        have hfa := far_any wr A B C D kA kB kC kD z i hr hz (by rw [HN.out]; exact hlt')
        unfold rval at hfa
        rw [HN.out] at hfa
        go_wp2_with fail
        refine hfa.mono ?_
        rintro e w2 ⟨sf, rfl, hsf, hb⟩
        clear x0 x1 x2 x3 x4 hfa
        go_upto_region 9 with fail
        have hbf := below_alloc w2 (.cells #[.bool sf.neg, .slice sf.A sf.n sf.cap, .int .i64 sf.E] 70)
        have hnb : NumB (w2.alloc (.cells #[.bool sf.neg, .slice sf.A sf.n sf.cap, .int .i64 sf.E] 70)) w2.heap.size sf := heap_alloc_new w2 _
        have hsf2 := hsf.below hbf
        have hbt := hb.trans (hbf.mono hb.size)
        have ho2 := ho.below hbt
        have hbx2 := (hbt.block _ (Array.getElem?_eq_some_iff.1 hbx).1).trans hbx
        have hB2 := hBW.trans (hbt.mono hBW.size)
        have hr2 := hr.below hbt
        generalize w2.alloc (.cells #[.bool sf.neg, .slice sf.A sf.n sf.cap, .int .i64 sf.E] 70) = W9 at *
        obtain ⟨bf, hbf'⟩ : ∃ b, w2.heap.size = b := ⟨_, rfl⟩
        rw [hbf'] at hnb ⊢
        clear hbf' hbf hsf hb hbt ho hbx hBW hr
        have ho := ho2
        have hbx := hbx2
        have hBW := hB2
        have hr := hr2
        have hsf := hsf2
        clear ho2 hbx2 hB2 hr2 hsf2
        obtain ⟨bc, oc, yc, rfl, lbc, e0, e1, e2, hyc⟩ := row_num hr.c i (by omega)
        obtain ⟨y0, y1, y2, y3, y4⟩ := cells5 hbx
        obtain ⟨s0, s1, s2⟩ := hnb.cells
        have lbr := (Array.getElem?_eq_some_iff.1 hbx).1
        have lbf := hnb.lt
        have tbr : Typed W9 br 61 := ⟨_, hbx⟩
        have tbf := hnb.typed
        have tbc := hr.c.typed _ rfl
        have hcb := cent_bound hz i
        have hrb := reach_bound hz i z.g.length (Nat.le_refl _)
        have hgc := hz.cols
        have hspan : spanD (fz (z.c.getD i 0) + -reachZ z i) (fz (z.c.getD i 0) + reachZ z i) = bndD z i := rfl
        have hbp : (fz (z.c.getD i 0) + reachZ z i).natAbs < W32 ^ 400 := span_W hz i
        have hbm : (fz (z.c.getD i 0) + -reachZ z i).natAbs < W32 ^ 400 := span_W' hz i
        have hd := (Below.refl W9.heap.size W9).drew
        clear hcb hrb hgc
        have hS : ∀ W', Below W9.heap.size W9 W' → (fun w' => w'.cell? ⟨br, 1, none⟩ = some (.slice (some ⟨bc, oc, none⟩) z.c.length kA) ∧ w'.cell? ⟨bc, oc + i * 3, none⟩ = some (.bool yc.neg) ∧ w'.cell? ⟨bc, oc + i * 3 + 1, none⟩ = some (.slice yc.A yc.n yc.cap) ∧ w'.cell? ⟨bc, oc + i * 3 + 2, none⟩ = some (.int .i64 yc.E) ∧ w'.cell? ⟨bf, 0, none⟩ = some (.bool sf.neg) ∧ w'.cell? ⟨bf, 1, none⟩ = some (.slice sf.A sf.n sf.cap) ∧ w'.cell? ⟨bf, 2, none⟩ = some (.int .i64 sf.E)) W' := fun W' hb => ⟨(hb.cell (p := ⟨br, 1, none⟩) lbr).trans y1, (hb.cell (p := ⟨bc, oc + i * 3, none⟩) lbc).trans e0, (hb.cell (p := ⟨bc, oc + i * 3 + 1, none⟩) lbc).trans e1, (hb.cell (p := ⟨bc, oc + i * 3 + 2, none⟩) lbc).trans e2, (hb.cell (p := ⟨bf, 0, none⟩) lbf).trans s0, (hb.cell (p := ⟨bf, 1, none⟩) lbf).trans s1, (hb.cell (p := ⟨bf, 2, none⟩) lbf).trans s2⟩
        refine late_begin (fun w' => w'.cell? ⟨br, 1, none⟩ = some (.slice (some ⟨bc, oc, none⟩) z.c.length kA) ∧ w'.cell? ⟨bc, oc + i * 3, none⟩ = some (.bool yc.neg) ∧ w'.cell? ⟨bc, oc + i * 3 + 1, none⟩ = some (.slice yc.A yc.n yc.cap) ∧ w'.cell? ⟨bc, oc + i * 3 + 2, none⟩ = some (.int .i64 yc.E) ∧ w'.cell? ⟨bf, 0, none⟩ = some (.bool sf.neg) ∧ w'.cell? ⟨bf, 1, none⟩ = some (.slice sf.A sf.n sf.cap) ∧ w'.cell? ⟨bf, 2, none⟩ = some (.int .i64 sf.E)) [] (by kernel_rfl) ?_
        refine late_take (i := 0) (v := ?_) (some 24) rfl rfl (by kernel_rfl) (by kernel_rfl) (by kernel_rfl) (by kernel_rfl) (fun _ _ _ h => h) (by kernel_rfl) (hS _ hd) ?_ ?_
        rotate_left
        · (intro w hSw; (try dsimp only at hSw); go_simp; try rfl)
        try simp only [Act.put, List.setIfInBounds_toArray, List.set_cons_zero, List.set_cons_succ]
        refine late_take (i := 1) (v := ?_) (some 25) rfl rfl (by kernel_rfl) (by kernel_rfl) (by kernel_rfl) (by kernel_rfl) (fun _ _ _ h => h) (by kernel_rfl) (hS _ hd) ?_ ?_
        rotate_left
        · (intro w hSw; (try dsimp only at hSw); go_simp; try rfl)
        try simp only [Act.put, List.setIfInBounds_toArray, List.set_cons_zero, List.set_cons_succ]
        refine late_take (i := 2) (v := ?_) (some 26) rfl rfl (by kernel_rfl) (by kernel_rfl) (by kernel_rfl) (by kernel_rfl) (fun _ _ _ h => h) (by kernel_rfl) (hS _ hd) ?_ ?_
        rotate_left
        · (intro w hSw; (try dsimp only at hSw); go_simp; try rfl)
        try simp only [Act.put, List.setIfInBounds_toArray, List.set_cons_zero, List.set_cons_succ]
        refine late_take (i := 3) (v := ?_) (some 27) rfl rfl (by kernel_rfl) (by kernel_rfl) (by kernel_rfl) (by kernel_rfl) (fun _ _ _ h => h) (by kernel_rfl) (hS _ hd) ?_ ?_
        rotate_left
        · (intro w hSw; (try dsimp only at hSw); go_simp; try rfl)
        try simp only [Act.put, List.setIfInBounds_toArray, List.set_cons_zero, List.set_cons_succ]
        refine late_take (i := 4) (v := ?_) (some 28) rfl rfl (by kernel_rfl) (by kernel_rfl) (by kernel_rfl) (by kernel_rfl) (fun _ _ _ h => h) (by kernel_rfl) (hS _ hd) ?_ ?_
        rotate_left
        · (intro w hSw; (try dsimp only at hSw); go_simp; try rfl)
        try simp only [Act.put, List.setIfInBounds_toArray, List.set_cons_zero, List.set_cons_succ]
        refine late_take (i := 5) (v := ?_) (some 29) rfl rfl (by kernel_rfl) (by kernel_rfl) (by kernel_rfl) (by kernel_rfl) (fun _ _ _ h => h) (by kernel_rfl) (hS _ hd) ?_ ?_
        rotate_left
        · (intro w hSw; (try dsimp only at hSw); go_simp; try rfl)
        try simp only [Act.put, List.setIfInBounds_toArray, List.set_cons_zero, List.set_cons_succ]
        refine late_take (i := 6) (v := ?_) (some 30) rfl rfl (by kernel_rfl) (by kernel_rfl) (by kernel_rfl) (by kernel_rfl) (fun _ _ _ h => h) (by kernel_rfl) (hS _ hd) ?_ ?_
        rotate_left
        · (intro w hSw; (try dsimp only at hSw); go_simp; try rfl)
        try simp only [Act.put, List.setIfInBounds_toArray, List.set_cons_zero, List.set_cons_succ]
        refine late_take (i := 8) (v := ?_) (some 32) rfl rfl (by kernel_rfl) (by kernel_rfl) (by kernel_rfl) (by kernel_rfl) (fun _ _ _ h => h) (by kernel_rfl) (hS _ hd) ?_ ?_
        rotate_left
        · (intro w hSw; (try dsimp only at hSw); go_simp; try rfl)
        try simp only [Act.put, List.setIfInBounds_toArray, List.set_cons_zero, List.set_cons_succ]
        refine late_take (i := 9) (v := ?_) (some 33) rfl rfl (by kernel_rfl) (by kernel_rfl) (by kernel_rfl) (by kernel_rfl) (fun _ _ _ h => h) (by kernel_rfl) (hS _ hd) ?_ ?_
        rotate_left
        · (intro w hSw; (try dsimp only at hSw); go_simp; try rfl)
        try simp only [Act.put, List.setIfInBounds_toArray, List.set_cons_zero, List.set_cons_succ]
        refine late_take (i := 10) (v := ?_) (some 34) rfl rfl (by kernel_rfl) (by kernel_rfl) (by kernel_rfl) (by kernel_rfl) (fun _ _ _ h => h) (by kernel_rfl) (hS _ hd) ?_ ?_
        rotate_left
        · (intro w hSw; (try dsimp only at hSw); go_simp; try rfl)
        try simp only [Act.put, List.setIfInBounds_toArray, List.set_cons_zero, List.set_cons_succ]
        refine late_take (i := 11) (v := ?_) (some 35) rfl rfl (by kernel_rfl) (by kernel_rfl) (by kernel_rfl) (by kernel_rfl) (fun _ _ _ h => h) (by kernel_rfl) (hS _ hd) ?_ ?_
        rotate_left
        · (intro w hSw; (try dsimp only at hSw); go_simp; try rfl)
        try simp only [Act.put, List.setIfInBounds_toArray, List.set_cons_zero, List.set_cons_succ]
        refine late_take (i := 12) (v := ?_) (some 36) rfl rfl (by kernel_rfl) (by kernel_rfl) (by kernel_rfl) (by kernel_rfl) (fun _ _ _ h => h) (by kernel_rfl) (hS _ hd) ?_ ?_
        rotate_left
        · (intro w hSw; (try dsimp only at hSw); go_simp; try rfl)
        try simp only [Act.put, List.setIfInBounds_toArray, List.set_cons_zero, List.set_cons_succ]
        refine late_take (i := 13) (v := ?_) (some 37) rfl rfl (by kernel_rfl) (by kernel_rfl) (by kernel_rfl) (by kernel_rfl) (fun _ _ _ h => h) (by kernel_rfl) (hS _ hd) ?_ ?_
        rotate_left
        · (intro w hSw; (try dsimp only at hSw); go_simp; try rfl)
        try simp only [Act.put, List.setIfInBounds_toArray, List.set_cons_zero, List.set_cons_succ]
        refine late_one (i := 7) rfl (by kernel_rfl) ?_
        intro K hK
        go_simp
        refine (Minus_num _ _ _ _ _ _ _ _ _ (hyc.below hd).is (hsf.below hd).is hbm).mono ?_
        rintro e w7 ⟨ng7, A7, n7, c7, E7, rfl, hm7, hb7⟩
        have hc7 := hd.trans (hb7.mono hd.size)
        try show K _ _
        refine hK.out _ _ (Or.inr (hS _ hc7)) ?_
        clear hK K
        try simp only [Act.put, List.setIfInBounds_toArray, List.set_cons_zero, List.set_cons_succ]
        refine late_one (i := 14) rfl (by kernel_rfl) ?_
        intro K hK
        go_simp
        refine (plus_r _ (-1074) 971 yc sf _ _ (hyc.below hc7) (hsf.below hc7) (by decide) (by decide) (by decide) (by decide) hbp).mono ?_
        rintro e w14 ⟨x14, rfl, hx14, hb14⟩
        have hc14 := hc7.trans (hb14.mono hc7.size)
        try show K _ _
        refine hK.out _ _ (Or.inr (hS _ hc14)) ?_
        clear hK K
        try simp only [Act.put, List.setIfInBounds_toArray, List.set_cons_zero, List.set_cons_succ]
        refine late_one (i := 15) rfl (by kernel_rfl) ?_
        intro K hK
        go_simp
        refine (Of4_any _ ⟨ng7, A7, n7, c7, E7⟩ x14 _ _ (hm7.below hb14) hx14.is).mono ?_
        rintro e w15 ⟨rfl, hb15⟩
        rw [hspan]
        have hc15 := hc14.trans (hb15.mono hc14.size)
        try show K _ _
        refine hK.out _ _ (Or.inr (hS _ hc15)) ?_
        clear hK K
        try simp only [Act.put, List.setIfInBounds_toArray, List.set_cons_zero, List.set_cons_succ]
        refine late_one (i := 16) rfl (by kernel_rfl) ?_
        intro K hK
        go_simp
        have hb16 := below_alloc w15 (.cells #[.int .u64 ((bndD z i).lo : Int), .int .u64 ((bndD z i).hi : Int), .bool (bndD z i).bad] 130)
        have hc16 := hc15.trans (hb16.mono hc15.size)
        have hnew := heap_alloc_new w15 (.cells #[.int .u64 ((bndD z i).lo : Int), .int .u64 ((bndD z i).hi : Int), .bool (bndD z i).bad] 130)
        try show K _ _
        refine hK.out _ _ (Or.inr (hS _ hc16)) ?_
        clear hK K
        try simp only [Act.put, List.setIfInBounds_toArray, List.set_cons_zero, List.set_cons_succ]
        refine late_one (i := 17) rfl (by kernel_rfl) ?_
        intro K hK
        have hA16 := ho.below hc16
        refine step_append_g SUc 3 24 (.agg #[.int .u64 0, .int .u64 0, .bool false]) 51 130 Tryz.underlying51 infoS4 rfl (by decide) (fun _ => rfl) rfl _ _ rfl W.heap.size u5 (bndL z i) [bndD z i] rfl hA16 ⟨w15.heap.size, 0, none⟩ 1 1 rfl rfl (World.news_of_block hnew) (by rw [bndL_length]; unfold maxLen; omega) (by rw [bndL_length]; omega) (Nat.le_trans hBW.size hc16.size) (fun y hy u hu => by simp [SUc] at hy hu; subst hy; rcases hu with rfl | rfl | rfl <;> rfl) ?_
        intro v17 w17 ho17 hg17 _
        obtain ⟨q1, q2, q3, q4, q5, q6, q7⟩ := hS _ hc16
        have hty := hA16.typed
        have hk17 := And.intro (cell_far q1 (tbr.below hc16) hg17 hty (by decide)) (And.intro (cell_far q2 (tbc.below hc16) hg17 hty (by decide)) (And.intro (cell_far q3 (tbc.below hc16) hg17 hty (by decide)) (And.intro (cell_far q4 (tbc.below hc16) hg17 hty (by decide)) (And.intro (cell_far q5 (tbf.below hc16) hg17 hty (by decide)) (And.intro (cell_far q6 (tbf.below hc16) hg17 hty (by decide)) (cell_far q7 (tbf.below hc16) hg17 hty (by decide)))))))
        have hfin := And.intro ho17 ((hBW.trans (hc16.mono hBW.size)).trans (below_ownG hA16 hg17 (Nat.le_trans hBW.size hc16.size)))
        try show K _ _
        refine hK.out _ _ (Or.inr hk17) ?_
        clear hK K
        try simp only [Act.put, List.setIfInBounds_toArray, List.set_cons_zero, List.set_cons_succ]
        refine late_take (i := 18) (v := ?_) (some 5) rfl rfl (by kernel_rfl) (by kernel_rfl) (by kernel_rfl) (by kernel_rfl) (fun _ _ _ h => h) (by kernel_rfl) hk17 ?_ ?_
        rotate_left
        · (intro w hSw; (try dsimp only at hSw); go_simp; try rfl)
        try simp only [Act.put, List.setIfInBounds_toArray, List.set_cons_zero, List.set_cons_succ]
        refine late_done (by kernel_rfl) ?_ _
        obtain ⟨ho9, hB9⟩ := hfin
        rw [← bndL_succ] at ho9
        clear hk17 hS hd q1 q2 q3 q4 q5 q6 q7 hty hA16 hg17 hc16 hb16 hnew hc15 hb15 hc14 hb14 hx14 hc7 hb7 hm7 hbm hbp ho hbx hBW hr e0 e1 e2 s0 s1 s2 hyc hsf hspan y0 y1 y2 y3 y4 lbr lbc lbf tbr tbc tbf
        go_wp2_with fail
        go_roundw
        case rel => exact ⟨i + 1, by omega, by go_num, ho9, hB9⟩
        case measure => simp [intOf]; omega
      · obtain rfl : i = N := by omega
        have hlt' : decide (((i : Nat) : Int) < (i : Nat)) = false := by simp
        obtain ⟨Av, cv, rfl, hS⟩ := ho.spans
        rw [bndL_length] at *
        clear x1 x2 x3 x4
        go_wp2_with fail
        go_ret
        rw [HS.out, bndL_length]
        exact ⟨_, _, rfl, hS, hb4.trans (hBW.mono hb4.size)⟩
  · have HS := Lib.hid (show bndsD z = [] by unfold bndsD; rw [if_neg (by rw [hg]; decide)])
    clear hg
    unfold noReal
    go_wp2_with fail
    go_ret
    rw [HS.out]
    exact ⟨none, 0, rfl, fun j s hs => by simp at hs, (hb1.trans (hb.mono hb1.size)).trans ((below_alloc _ _).mono (hb1.trans (hb.mono hb1.size)).size)⟩
end Go.Proofs.YtpfbgenefjhcjaaGreatDoor
