/- ambitlaw3.AccDoubles: true. -/
import Derived.Test.YtopilodakphhgaaDoorDoublesPlain
import Derived.Test.YtopilodakphhgaaDoorTurned
import Derived.Test.YtopilodakphhgaaDoorBegun
import Derived.Deep.CutRange
import Derived.Deep.RegionWith
namespace Go.Proofs.YtopilodakphhgaaDoor
set_option linter.unusedVariables false
set_option linter.unusedSimpArgs false
open Go Go.RowKit
set_option maxRecDepth 100000
theorem acc_block {w : World} {b : Nat} {s : Option Int} (h : AccIs w b s) : ∃ c, w.heap[b]? = some (.cells c 62 (0, 0)) := by
  cases s with
  | none => exact ⟨_, h⟩
  | some z => exact ⟨_, h.1⟩
/-- An Acc's block is written: the row stands. -/
theorem MagIs.acc {w w' : World} {v : Value} {M g : Nat} {s : Option Int} (h : MagIs w v M) (hc : AccIs w g s) (hg : w.grownBy w' (some g)) : MagIs w' v M := by
  obtain ⟨c, hc⟩ := acc_block hc
  rcases h with h | ⟨gh, n, cap, h1, h2, h3, h4, h5⟩
  · exact Or.inl h
  · refine Or.inr ⟨gh, n, cap, h1, h2, h3, h4, h5.grown hg fun e => ?_⟩
    injection e with e
    subst e
    obtain ⟨cur, hcur, _, _⟩ := h5
    rw [hc] at hcur
    injection hcur with hcur
    injection hcur with _ ht _
    exact absurd ht (by decide)
theorem new_is (w : World) : AccIs (w.alloc (.cells (accCells 0 false) 62)) w.heap.size (some 0) ∧ Below w.heap.size w (w.alloc (.cells (accCells 0 false) 62)) := by
  refine ⟨⟨?_, ?_⟩, (Below.refl _ _).alloc (Nat.le_refl _) _⟩
  · rw [show enc 0 = 0 by decide +kernel]; exact heap_alloc_new w _
  · exact LIM_pos
structure DblRel (w wr : World) (bx g6 bY : Nat) (sx sy : Option Int) (c6 : Array Value) (v : Value) (s : Nat) : Prop where
  below : Below w.heap.size w wr
  ax : AccIs wr bx sx
  ay : AccIs wr bY sy
  num : wr.heap[g6]? = some (.cells c6 40 (0, 0))
  mag : MagIs wr v s
section
variable {w wr w2 : World} {bx g6 bY s : Nat} {sx sy sx' sy' : Option Int} {c6 : Array Value} {v : Value}
theorem DblRel.num_ne {b : Nat} {t : Option Int} (hn : wr.heap[g6]? = some (.cells c6 40 (0, 0))) (ha : AccIs wr b t) : g6 ≠ b := fun e => by
  obtain ⟨c, hc⟩ := acc_block ha
  rw [e, hc] at hn
  injection hn with hn
  injection hn with _ ht _
  exact absurd ht (by decide)
theorem DblRel.inX (h : DblRel w wr bx g6 bY sx sy c6 v s) (hb : w.heap.size ≤ bx) (hne : bx ≠ bY) (hg : wr.grownBy w2 (some bx)) (ha : AccIs w2 bx sx') : DblRel w w2 bx g6 bY sx' sy c6 v s :=
  ⟨h.below.trans (below_of_grown' hg h.below.size hb), ha, h.ay.grown hg (by simp; omega), (hg.block g6 (Array.getElem?_eq_some_iff.1 h.num).1 (by have := DblRel.num_ne h.num h.ax; simp; omega)).trans h.num, h.mag.acc h.ax hg⟩
theorem DblRel.inY (h : DblRel w wr bx g6 bY sx sy c6 v s) (hb : w.heap.size ≤ bY) (hne : bx ≠ bY) (hg : wr.grownBy w2 (some bY)) (ha : AccIs w2 bY sy') : DblRel w w2 bx g6 bY sx sy' c6 v s :=
  ⟨h.below.trans (below_of_grown' hg h.below.size hb), h.ax.grown hg (by simp; omega), ha, (hg.block g6 (Array.getElem?_eq_some_iff.1 h.num).1 (by have := DblRel.num_ne h.num h.ay; simp; omega)).trans h.num, h.mag.acc h.ay hg⟩
theorem DblRel.further (h : DblRel w wr bx g6 bY sx sy c6 v s) (hb : Below wr.heap.size wr w2) : DblRel w w2 bx g6 bY sx sy c6 v s :=
  ⟨h.below.trans (hb.mono h.below.size), h.ax.below h.ax.lt hb, h.ay.below h.ay.lt hb, (hb.block g6 (Array.getElem?_eq_some_iff.1 h.num).1).trans h.num, h.mag.below hb⟩
theorem DblRel.cells {ng : Bool} {E : Int} (h : DblRel w wr bx g6 bY sx sy #[.bool ng, v, .int .i64 E] v s) : wr.cell? ⟨g6, 0, none⟩ = some (.bool ng) ∧ wr.cell? ⟨g6, 1, none⟩ = some v ∧ wr.cell? ⟨g6, 2, none⟩ = some (.int .i64 E) := by
  refine ⟨?_, ?_, ?_⟩ <;> (rw [cell_of_row _ _ _ _ _ _ h.num]; rfl)
end
def badU (u : Nat) : Bool := fexp u == 2047 || u % 9223372036854775808 == 0
theorem good_u (u : Nat) (h : badU u = false) : fexp u ≠ 2047 ∧ sig u ≠ 0 := by
  unfold badU at h
  rw [Bool.or_eq_false_iff, beq_eq_false_iff_ne, beq_eq_false_iff_ne] at h
  refine ⟨h.1, fun hs => ?_⟩
  unfold sig at hs
  split at hs
  · next h0 =>
    unfold fexp at h0
    unfold fman at hs
    omega
  · omega
set_option maxHeartbeats 16000000 in
theorem doubles_any (w : World) (u : Nat) (n0 : Int) (hu : u < B64) (hn1 : -9223372036854775808 ≤ n0) (hn2 : n0 ≤ 9223372036854775807) :
    Calls Tryd.prog 4 #[.int .u64 (u : Nat), .int .i64 n0] w fun e w' => e = .returned (.bool true) ∧ Below w.heap.size w w' := by
  have hul : (u : Int) ≤ 18446744073709551615 := by unfold B64 at hu; omega
  have hnum := number_law u hu
  have hand := i64_and12 n0
  obtain ⟨n, hn⟩ : ∃ n : Nat, n0 % 4096 = (n : Int) := ⟨(n0 % 4096).toNat, by omega⟩
  have hn9 : n ≤ 4095 := by omega
  rw [hn] at hand
  clear hn
  go_enter Tryd.func4, Tryd.ntmps4
  go_upto_region 1 with fail
  go_cut [23] from 16 to 22 (fun c wx => c = .bool (badU u) ∧ w = wx)
  case first =>
    by_cases hf : fexp u = 2047
    · have h1 : (fexp u != 2047) = false := by rw [hf]; rfl
      rw [h1] at hnum
      have h2 : badU u = true := by unfold badU; rw [hf]; rfl
      go_wp2_with fail
      refine (hnum _).mono ?_
      rintro e w1 ⟨rfl, rfl⟩
      go_wp2_with fail
      go_meet
      case rel => exact ⟨by rw [h2], rfl⟩
    · have h1 : (fexp u != 2047) = true := by rw [bne_iff_ne]; exact hf
      rw [h1] at hnum
      have h2 : badU u = (u % 9223372036854775808 == 0) := by unfold badU; rw [beq_eq_false_iff_ne.2 hf]; rfl
      have h3 : (IntKind.u64.wrap ((u : Int) * 2) == 0) = (u % 9223372036854775808 == 0) := by
        rw [IntKind.wrap_u64, Bool.eq_iff_iff, beq_iff_eq, beq_iff_eq]; omega
      go_wp2_with fail
      refine (hnum _).mono ?_
      rintro e w1 ⟨rfl, rfl⟩
      go_wp2_with fail
      go_meet
      case rel => exact ⟨by rw [h2], rfl⟩
  case rest =>
    obtain ⟨hc, rfl⟩ := hcut
    subst hc
    go_upto_if 23 with fail
    go_cut [0] from 16 to 23 (fun uv wx => (∃ u' : Nat, uv = .int .u64 (u' : Nat) ∧ u' < B64 ∧ fexp u' ≠ 2047 ∧ sig u' ≠ 0) ∧ w = wx)
    case first =>
      cases hbad : badU u with
      | true =>
        go_wp2_with fail
        go_meet
        case rel => exact ⟨⟨1, rfl, by decide, by decide, by decide⟩, rfl⟩
      | false =>
        have hg := good_u u hbad
        go_wp2_with fail
        go_meet
        case rel => exact ⟨⟨u, rfl, hu, hg.1, hg.2⟩, rfl⟩
    case rest =>
      obtain ⟨⟨x, hxv, hxB, hxe, hxs⟩, rfl⟩ := hcut
      subst hxv
      have hxl : (x : Int) ≤ 18446744073709551615 := by unfold B64 at hxB; omega
      have hfl := float_nat x
      clear hnum hul hu hn1 hn2
      go_wp2_with fail
      refine (new_any _).mono ?_
      rintro e w1 ⟨rfl, hw1⟩
      have hn1 := new_is w
      rw [hw1] at hn1
      clear hw1
      go_wp2_with fail
      refine (begun_any w1).mono ?_
      rintro e w2 ⟨rfl, hb2⟩
      have ha2 := hn1.1.below hn1.1.lt hb2
      have hb02 := hn1.2.trans (hb2.mono hn1.2.size)
      clear hn1 hb2
      obtain ⟨hfr, habs, hsgn⟩ := first_real x hxB hxe hxs
      have hadd := add_any w2 w.heap.size x (some 0) ha2 hxB
      rw [hfr] at hadd
      clear hfr ha2
      generalize prodZ x ONE 0 = z at *
      go_wp2_with fail
      refine (hfl _).mono ?_
      rintro e w3 ⟨rfl, rfl⟩
      go_wp2_with fail
      refine hadd.mono ?_
      rintro e w4 ⟨rfl, ha4, hg4⟩
      have hb04 := hb02.trans (below_of_grown' hg4 hb02.size (Nat.le_refl _))
      clear hadd hg4 hb02
      go_wp2_with fail
      refine (Of_num w4 x hxB hxe hxs).mono ?_
      rintro e w5 ⟨v, rfl, hm5, hb5⟩
      have ha5 := ha4.below ha4.lt hb5
      have hb05 := hb04.trans (hb5.mono hb04.size)
      clear ha4 hb5 hb04
      obtain ⟨A6, c6, cap6, rfl, hc6, hc60⟩ := hm5.form
      go_wp2_with fail
      have hb56 := below_alloc w5 (.cells #[.bool (fneg x), .slice A6 c6 cap6, .int .i64 (pwr x)] 40)
      have ha6 := ha5.below ha5.lt hb56
      have hm6 := hm5.below hb56
      have hg6 := heap_alloc_new w5 (.cells #[.bool (fneg x), .slice A6 c6 cap6, .int .i64 (pwr x)] 40)
      have hs6 : (w5.alloc (.cells #[.bool (fneg x), .slice A6 c6 cap6, .int .i64 (pwr x)] 40)).heap.size = w5.heap.size + 1 := by simp
      have hb06 := hb05.trans (hb56.mono hb05.size)
      have hcp := copy_any _ w.heap.size (some z) ha6
      rw [hs6] at hcp
      have hg05 := hb05.size
      clear ha5 hm5 hb56 hb05
      generalize w5.alloc (.cells #[.bool (fneg x), .slice A6 c6 cap6, .int .i64 (pwr x)] 40) = W6 at *
      generalize w5.heap.size = g6 at *
      refine hcp.mono ?_
      rintro e w7 ⟨rfl, hy7, hb67⟩
      have hlx := ha6.lt
      have hrel7 : DblRel w w7 w.heap.size g6 (g6 + 1) (some z) (some z) #[.bool (fneg x), .slice A6 c6 cap6, .int .i64 (pwr x)] (.slice A6 c6 cap6) (sig x) :=
        ⟨hb06.trans (hb67.mono (by omega)), ha6.below (by omega) hb67, hy7, (hb67.block g6 (by omega)).trans hg6, hm6.below (by rw [hs6]; exact hb67)⟩
      clear hcp ha6 hm6 hg6 hs6 hb06 hy7 hb67
      have hsl := sig_lt x
      have hE1 := pwr_ge x
      have hE2 := pwr_le x hxe
      have hsp : 0 < sig x := by omega
      clear hxe hxs hfl hxl hxB hlx
      generalize fneg x = ng at *
      generalize sig x = s at *
      generalize pwr x = E at *
      obtain ⟨P, hP⟩ : ∃ P : Nat, (P : Int) = E + 2212 := ⟨(E + 2212).toNat, by omega⟩
      rw [show (E + 2212).toNat = P by omega] at habs
      have hL1 := blen_le s 53 (by omega)
      obtain ⟨L, hL⟩ : ∃ L, L = blen s := ⟨_, rfl⟩
      rw [← hL] at hL1
      obtain ⟨K, hK⟩ : ∃ K, blen s + P + K = limK := ⟨limK - blen s - P, by rw [← hL]; unfold limK; omega⟩
      have hKi : (2560 : Int) - ((L : Int) + E) = (K : Int) := by rw [← hL] at hK; unfold limK at hK; omega
      have HJ := dbl_join s P K z habs hsp hK
      have HL := Lib.hid hL
      have HP := Lib.hid hP
      have HA := Lib.hid habs
      clear hL hP habs hK
      go_wp2_with fail
      go_loopw [9, 10] (fun kk i wr => ∃ j : Nat, j ≤ n ∧ i = .int .i64 (j : Nat) ∧ kk = .int .i64 ((min j K : Nat) : Int) ∧ DblRel w wr w.heap.size g6 (g6 + 1) (dblX z K j) (some (z * 2 ^ (min j K))) #[.bool ng, .slice A6 c6 cap6, .int .i64 E] (.slice A6 c6 cap6) s) (fun _ i _ => n - (intOf i).toNat)
      case atStart =>
        refine ⟨0, by omega, rfl, by rw [Nat.zero_min]; rfl, ?_⟩
        rw [Nat.zero_min, Int.pow_zero, Int.mul_one, show dblX z K 0 = some z by unfold dblX; rw [if_pos (Nat.zero_le _), Int.pow_zero, Int.mul_one]]
        exact hrel7
      case round =>
        obtain ⟨j, hj, rfl, rfl, hr⟩ := hrel
        clear hrel7
        by_cases hlt : j < n
        · have hlt' : (j : Int) < (n : Int) := by omega
          have hj0 : (0 : Int) ≤ (j : Int) := by omega
          have hjn := join_any wr w.heap.size w.heap.size _ _ false hr.ax hr.ax
          rw [HJ j] at hjn
          obtain ⟨m, hm⟩ : ∃ m, m = min j K := ⟨_, rfl⟩
          rw [← hm] at hr
          rw [← hm]
          have hml : m ≤ j := by omega
          by_cases hjK : j + 1 ≤ K
          · have hmj : m = j := by omega
            have hxn : (dblX z K (j + 1)).isNone = false := by unfold dblX; rw [if_pos hjK]; rfl
            have hd1 : dblX z K j = some (z * 2 ^ m) := by unfold dblX; rw [if_pos (by omega), hmj]
            have hd2 : dblX z K (j + 1) = some (z * 2 ^ (m + 1)) := by unfold dblX; rw [if_pos hjK, hmj]
            have HM := Lib.hid hm
            have HMJ := Lib.hid hmj
            clear hm hmj
            go_wp2_with fail
            refine hjn.mono ?_
            rintro e w8 ⟨rfl, ha8, hg8⟩
            have hr8 := hr.inX (Nat.le_refl _) (by omega) hg8 ha8
            clear hjn ha8 hg8 hr
            have hbad := badS_any w8 w.heap.size _ hr8.ax
            rw [hxn] at hbad
            have hjy := join_any w8 (g6 + 1) (g6 + 1) _ _ false hr8.ay hr8.ay
            rw [← hd1, HJ j, hd2] at hjy
            go_wp2_with fail
            refine hbad.mono ?_
            rintro e w9 ⟨rfl, rfl⟩
            clear hbad
            go_wp2_with fail
            refine hjy.mono ?_
            rintro e w9 ⟨rfl, ha9, hg9⟩
            have hr9 := hr8.inY (by omega) (by omega) hg9 ha9
            clear hjy ha9 hg9 hr8 hd1 hd2 hxn
            go_wp2_with fail
            go_roundw
            case rel =>
              have e1 := HM.out
              have e2 := HMJ.out
              have e3 : min (j + 1) K = m + 1 := by omega
              exact ⟨j + 1, by omega, by go_num, by rw [e3]; go_num, by rw [e3]; exact hr9⟩
            case measure => simp [intOf]; omega
          · have hxn : (dblX z K (j + 1)).isNone = true := by unfold dblX; rw [if_neg hjK]; rfl
            have HM := Lib.hid hm
            clear hm
            go_wp2_with fail
            refine hjn.mono ?_
            rintro e w8 ⟨rfl, ha8, hg8⟩
            have hr8 := hr.inX (Nat.le_refl _) (by omega) hg8 ha8
            clear hjn ha8 hg8 hr
            have hbad := badS_any w8 w.heap.size _ hr8.ax
            rw [hxn] at hbad
            go_wp2_with fail
            refine hbad.mono ?_
            rintro e w9 ⟨rfl, rfl⟩
            clear hbad hxn
            go_wp2_with fail
            go_roundw
            case rel =>
              have e1 := HM.out
              have e3 : min (j + 1) K = m := by omega
              exact ⟨j + 1, by omega, by go_num, by rw [e3], by rw [e3]; exact hr8⟩
            case measure => simp [intOf]; omega
        · obtain rfl : j = n := by omega
          have hlt' : decide ((j : Int) < (j : Nat)) = false := by simp
          obtain ⟨k, hk⟩ : ∃ k, k = min j K := ⟨_, rfl⟩
          rw [← hk] at hr
          rw [← hk]
          clear HJ hlt
          obtain ⟨T, hT⟩ : ∃ T, T = (L : Int) + E := ⟨_, rfl⟩
          have hw1 : IntKind.i64.wrap ((L : Int) + E) = T := by rw [IntKind.wrap_i64]; omega
          have hw2 : IntKind.i64.wrap (2560 - T) = (K : Int) := by rw [IntKind.wrap_i64]; have := HP.out; omega
          have hmin : min (j : Int) (K : Int) = (k : Int) := by omega
          have hkj : k ≤ j := by omega
          have hB1 : (dblX z K j).isNone = decide ((k : Int) < (j : Int)) := by
            unfold dblX
            by_cases h : j ≤ K
            · rw [if_pos h]; exact (decide_eq_false (by omega)).symm
            · rw [if_neg h]; exact (decide_eq_true (by omega)).symm
          have hS1 : (z * 2 ^ k).sign = signM ng s := by
            rw [sign_pow]
            unfold signM
            rw [if_neg (by omega)]
            have hz0 : z ≠ 0 := fun e => by
              have h1 := HA.out
              rw [e] at h1
              have := Nat.mul_pos hsp (Nat.two_pow_pos P)
              simp at h1
              omega
            by_cases h : z < 0
            · rw [decide_eq_true h] at hsgn
              rw [← hsgn, if_pos rfl, Int.sign_eq_neg_one_of_neg h]
            · rw [decide_eq_false h] at hsgn
              rw [← hsgn, if_neg (by decide), Int.sign_eq_one_of_pos (by omega)]
          have hX0 : k ≠ j → signS (dblX z K j) = 0 := fun h => by
            unfold dblX
            rw [if_neg (by omega)]
            rfl
          have HB1 := Lib.hid hB1
          have HS1 := Lib.hid hS1
          have HX0 := Lib.hid hX0
          have HK := Lib.hid hk
          have HT := Lib.hid hT
          clear hB1 hS1 hX0 hk hT hKi
          go_upto_region 18 with fail
          go_cut [11] from 60 to 64 (fun tv wx => tv = .int .i64 T ∧ DblRel w wx w.heap.size g6 (g6 + 1) (dblX z K j) (some (z * 2 ^ k)) #[.bool ng, .slice A6 c6 cap6, .int .i64 E] (.slice A6 c6 cap6) s)
          case first =>
            obtain ⟨d0, d1, d2⟩ := hr.cells
            have hrd := hr.further (w2 := wr.drew) ⟨rfl, rfl, rfl, Nat.le_refl _, fun _ _ => rfl⟩
            have hLen := Length_any wr.drew ng (.slice A6 c6 cap6) s E hrd.mag
            rw [← HL.out] at hLen
            clear hr
            go_region_with ((go_at_call 17; refine hLen.mono ?_; rintro e w2 ⟨rfl, hb2⟩; have hr2 := hrd.further hb2; obtain ⟨f0, f1, f2⟩ := hr2.cells))
            all_goals go_wp2_with fail
            all_goals go_meet
            all_goals exact ⟨rfl, hr2⟩
          case rest =>
            obtain ⟨htv, hr⟩ := hcut
            subst htv
            clear hw1
            go_upto_region 19 with fail
            go_cut [89] from 65 to 88 (fun c wx => c = .bool false ∧ DblRel w wx w.heap.size g6 (g6 + 1) (dblX z K j) (some (z * 2 ^ k)) #[.bool ng, .slice A6 c6 cap6, .int .i64 E] (.slice A6 c6 cap6) s)
            case first =>
              obtain ⟨d0, d1, d2⟩ := hr.cells
              have hrd := hr.further (w2 := wc.drew) ⟨rfl, rfl, rfl, Nat.le_refl _, fun _ _ => rfl⟩
              have hbx := badS_any wc.drew w.heap.size _ hrd.ax
              have hby := badS_any wc.drew (g6 + 1) _ hrd.ay
              have hsy := sign_any wc.drew (g6 + 1) _ hrd.ay
              have hrs := refSign_any wc.drew ng (.slice A6 c6 cap6) s E hrd.mag
              rw [HB1.out] at hbx
              rw [show (some (z * 2 ^ k)).isNone = false from rfl] at hby
              rw [show signS (some (z * 2 ^ k)) = signM ng s from HS1.out] at hsy
              generalize signM ng s = sg at *
              have hne : w.heap.size ≠ g6 + 1 := by omega
              clear hr
              go_region_with (first
                | (go_at_call 16; refine hbx.mono ?_; rintro e w' ⟨rfl, rfl⟩)
                | (go_at_call 16; refine hby.mono ?_; rintro e w' ⟨rfl, rfl⟩)
                | (go_at_call 18; refine hsy.mono ?_; rintro e w' ⟨rfl, rfl⟩)
                | (go_at_call 19; refine hrs.mono ?_; rintro e w2 ⟨rfl, hb2⟩))
              all_goals go_wp2_with fail
              all_goals go_meet
              all_goals exact ⟨rfl, hrd.further hb2⟩
            case rest =>
              obtain ⟨hcv, hr2⟩ := hcut
              subst hcv
              clear hr hw2 hmin
              obtain ⟨n1, hn1⟩ : ∃ n1 : Nat, (n1 : Int) = max ((blen s : Int) + (E + (k : Int)) - 53) (-1074) + 1075 := ⟨(max ((blen s : Int) + (E + (k : Int)) - 53) (-1074) + 1075).toNat, by omega⟩
              obtain ⟨k1, hk1⟩ : ∃ k1 : Nat, (k1 : Int) = E + (k : Int) - ((n1 : Int) - 1075) := ⟨(E + (k : Int) - ((n1 : Int) - 1075)).toNat, by have := HL.out; omega⟩
              have hbk : blen (s * 2 ^ k1) = blen s + k1 := blen_shift s k1 hsp
              have hQ2 : s * 2 ^ k1 < 9007199254740992 := by
                have h1 := (isLen_blen (s * 2 ^ k1)).1
                rw [hbk] at h1
                exact Nat.lt_of_lt_of_le h1 (show 2 ^ (blen s + k1) ≤ 2 ^ 53 from Nat.pow_le_pow_right (by decide) (by have := HL.out; omega))
              have hor : n1 = 1 ∨ 4503599627370496 ≤ s * 2 ^ k1 := by
                by_cases h1 : n1 = 1
                · exact Or.inl h1
                · right
                  have h2 := (isLen_blen (s * 2 ^ k1)).2 (by rw [hbk]; have := HL.out; omega)
                  rw [hbk, show blen s + k1 - 1 = 52 by have := HL.out; omega] at h2
                  exact h2
              have hround : roundS 0 (some (z * 2 ^ k)) = (if n1 ≤ 2046 then numB ng (s * 2 ^ k1) (n1 + 1137) else 0, decide (n1 ≤ 2046)) := by
                show toldB 0 (decide (z * 2 ^ k < 0)) (z * 2 ^ k).natAbs = _
                have h1 : (z * 2 ^ k).natAbs = s * 2 ^ (P + k) := by
                  rw [Int.natAbs_mul, HA.out, Int.natAbs_pow, Nat.pow_add, Nat.mul_assoc]; rfl
                have h2 : decide (z * 2 ^ k < 0) = ng := by
                  rw [← hsgn]
                  have hp : (0 : Int) < 2 ^ k := by
                    rw [show (2 : Int) ^ k = ((2 ^ k : Nat) : Int) by rw [Int.natCast_pow]; rfl]
                    have := Nat.two_pow_pos k
                    omega
                  rw [Bool.eq_iff_iff, decide_eq_true_iff, decide_eq_true_iff]
                  constructor
                  · intro h
                    refine Int.lt_of_not_ge fun h0 => ?_
                    have := Int.mul_nonneg h0 (Int.le_of_lt hp)
                    omega
                  · intro h
                    exact Int.mul_neg_of_neg_of_pos h hp
                rw [h1, h2]
                exact dbl_told ng s P k n1 k1 hsp hsl (by have := HP.out; omega) (by omega) hQ2 hor
              have hE90 : E + (k : Int) ≤ 90000 := by omega
              have hrr := fun (w2 : World) (hm : MagIs w2 (.slice A6 c6 cap6) s) => refRound w2 ng (.slice A6 c6 cap6) s n1 k1 (E + (k : Int)) hm (by omega) hsl (by omega) hE90 hn1 hk1
              obtain ⟨R, hR⟩ : ∃ R : Nat, R = if n1 ≤ 2046 then numB ng (s * 2 ^ k1) (n1 + 1137) else 0 := ⟨_, rfl⟩
              obtain ⟨bb, hbb⟩ : ∃ bb : Bool, bb = decide (n1 ≤ 2046) := ⟨_, rfl⟩
              rw [← hR, ← hbb] at hround hrr
              have hro := round_any wc (g6 + 1) 0 _ hr2.ay (by decide) (by decide)
              rw [hround] at hro
              clear hround hR hbb hQ2 hor hbk hn1 hk1
              have hbt := bits_nat R
              go_wp2_with fail
              refine hro.mono ?_
              rintro e w3 ⟨rfl, hb3⟩
              have hr3 := hr2.further hb3
              clear hro hr2 hb3
              obtain ⟨d0, d1, d2⟩ := hr3.cells
              have hmv := Moved_any w3 ng (.slice A6 c6 cap6) s E (k : Int) hr3.mag (by omega) (by omega) (by omega)
              go_wp2_with fail
              refine hmv.mono ?_
              rintro e w4 ⟨rfl, hb4⟩
              have hr4 := hr3.further hb4
              have hrr4 := hrr w4 hr4.mag
              clear hmv hr3 hb4 hrr d0 d1 d2
              go_wp2_with fail
              refine hrr4.mono ?_
              rintro e w5 ⟨rfl, hb5⟩
              have hr5 := hr4.further hb5
              clear hrr4 hr4 hb5
              have hbel := hr5.below
              by_cases hkj2 : k = j
              · have HKJ := Lib.hid hkj2
                have hjk : (((j : Nat) : Int) == ((k : Nat) : Int)) = true := by rw [beq_iff_eq]; omega
                clear hkj2 hkj
                go_wp2_with fail
                refine (hbt _).mono ?_
                rintro e w6 ⟨rfl, rfl⟩
                go_wp2_with fail
                go_ret
                exact ⟨rfl, hbel⟩
              · have hsx := sign_any w5 w.heap.size _ hr5.ax
                rw [HX0.out hkj2] at hsx
                have hjk : (((j : Nat) : Int) == ((k : Nat) : Int)) = false := by rw [beq_eq_false_iff_ne]; omega
                clear hkj2 hkj
                go_wp2_with fail
                refine (hbt _).mono ?_
                rintro e w6 ⟨rfl, rfl⟩
                go_wp2_with fail
                refine hsx.mono ?_
                rintro e w7 ⟨rfl, rfl⟩
                go_wp2_with fail
                go_ret
                exact ⟨rfl, hbel⟩
end Go.Proofs.YtopilodakphhgaaDoor
