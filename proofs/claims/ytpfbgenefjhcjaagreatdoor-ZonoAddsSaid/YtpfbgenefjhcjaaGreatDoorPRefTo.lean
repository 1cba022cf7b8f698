/-
 ambitref2.told: a significand of 54 bits told as a float, in each direction. ambitref2.Over2, and what Round reckons, in plain Lean.
 ambitref2.Round to the nearest, of 53 bits at the most, nothing left over.
 ambitref2.Round: what acc tells of the same real.
-/
import Derived.Test.YtpfbgenefjhcjaaGreatDoorPRefRo
import Derived.Test.YtpfbgenefjhcjaaGreatDoorPRounds
import Derived.BigQuiet
import Derived.Deep.CutRange
namespace Go.Proofs.YtpfbgenefjhcjaaGreatDoor
set_option linter.unusedVariables false
set_option linter.unusedSimpArgs false
open Go Go.RowKit
set_option maxRecDepth 100000
def moreB (d : Int) (neg half rest odd : Bool) : Bool := ((d == 0) && half && (rest || odd)) || ((((d == 1) && !neg) || ((d == 2) && neg)) && (half || rest))
def outB (d : Int) (neg : Bool) : Bool := (d == 0) || ((d == 1) != neg)
theorem more_out (d : Int) (neg half rest odd : Bool) (hd : d = 0 ∨ d = 1 ∨ d = 2) (h : moreB d neg half rest odd = true) : outB d neg = true := by
 rcases hd with rfl | rfl | rfl <;> cases neg <;> cases half <;> cases rest <;> cases odd <;> simp_all [moreB, outB]
/-- Brought to 53 bits: the same number told. -/
theorem fin_norm (out neg : Bool) (Q n1 Q2 n2 : Nat) (hQ : Q ≤ 9007199254740992) (hn : 1 ≤ n1) (hor : n1 = 1 ∨ 4503599627370496 ≤ Q) (h : (Q ≠ 9007199254740992 ∧ Q2 = Q ∧ n2 = n1) ∨ (Q = 9007199254740992 ∧ Q2 = 4503599627370496 ∧ n2 = n1 + 1)) :
  finishB out neg Q (n1 + 1137) = if n2 ≤ 2046 then (numB neg Q2 (n2 + 1137), true) else bif out then (0, false) else (numB neg 9007199254740991 3183, true) := by
 unfold finishB
 rcases h with ⟨h0, rfl, rfl⟩ | ⟨rfl, rfl, rfl⟩
 ·by_cases hn2 : n2 ≤ 2046
  ·rw [if_pos hn2, if_neg]
   have := blen_le Q2 53 (by omega)
   omega
  ·rw [if_neg hn2, if_pos]
   have := blen_ge53 Q2 (by omega)
   omega
 ·have hb : blen 9007199254740992 = 54 := by decide +kernel
  rw [hb]
  by_cases hn2 : n1 + 1 ≤ 2046
  ·rw [if_pos hn2, if_neg (by omega)]
   have : numB neg 9007199254740992 (n1 + 1137) = numB neg 4503599627370496 (n1 + 1 + 1137) := by
    unfold numB
    rw [if_neg (by decide), if_neg (by decide)]
    omega
   rw [this]
  ·rw [if_neg hn2, if_pos (by omega)]
set_option maxHeartbeats 16000000 in
theorem rtold_any (w : World) (d : Int) (neg rest : Bool) (h n1 : Nat) (hd : d = 0 ∨ d = 1 ∨ d = 2) (hh : h < 18014398509481984) (hn : 1 ≤ n1) (hn2 : n1 ≤ 100000) (hor : n1 = 1 ∨ 4503599627370496 ≤ h / 2) :
  Calls Tryz.prog 88 #[.int .i64 d, .bool neg, .int .u64 (h : Nat), .bool rest, .int .i64 ((n1 : Int) - 1075)] w fun e w' =>
   e = .returned (.tuple #[.int .u64 (((finishB (outB d neg) neg (h / 2 + (moreB d neg (h % 2 == 1) rest (h / 2 % 2 == 1)).toNat) (n1 + 1137)).1 : Nat) : Int), .bool (finishB (outB d neg) neg (h / 2 + (moreB d neg (h % 2 == 1) rest (h / 2 % 2 == 1)).toNat) (n1 + 1137)).2]) ∧ w' = w := by
 obtain ⟨half, hhalf⟩ : ∃ half, half = (h % 2 == 1) := ⟨_, rfl⟩
 obtain ⟨odd, hodd⟩ : ∃ odd, odd = (h / 2 % 2 == 1) := ⟨_, rfl⟩
 obtain ⟨q, hq⟩ : ∃ q, q = h / 2 := ⟨_, rfl⟩
 rw [← hq] at hodd hor
 rw [← hhalf, ← hq, ← hodd]
 have hhl : (h : Int) ≤ 18446744073709551615 := by omega
 have hql : q ≤ 9007199254740991 := by omega
 have hdiv : (h : Int) / 2 = (q : Int) := by omega
 have hand1 : (bits .and .u64 (h : Int) 1 == 1) = half := by
  have h1 := u64_and_nat h 1 (by omega) (by decide)
  rw [Nat.and_one_is_mod] at h1
  have h2 : bits .and .u64 (h : Int) 1 = ((h % 2 : Nat) : Int) := h1
  rw [h2, hhalf, Bool.eq_iff_iff, beq_iff_eq, beq_iff_eq]
  omega
 have hand2 : (bits .and .u64 (q : Int) 1 == 1) = odd := by
  have h1 := u64_and_nat q 1 (by omega) (by decide)
  rw [Nat.and_one_is_mod] at h1
  have h2 : bits .and .u64 (q : Int) 1 = ((q % 2 : Nat) : Int) := h1
  rw [h2, hodd, Bool.eq_iff_iff, beq_iff_eq, beq_iff_eq]
  omega
 clear hhalf hodd hq hh
 obtain ⟨more, hmore⟩ : ∃ more, more = moreB d neg half rest odd := ⟨_, rfl⟩
 rw [← hmore]
 have hmo : more = true → outB d neg = true := fun e => more_out d neg half rest odd hd (by rw [← hmore]; exact e)
 obtain ⟨Q, hQ⟩ : ∃ Q, Q = q + more.toNat := ⟨_, rfl⟩
 rw [← hQ]
 obtain ⟨F, hF⟩ : ∃ F, F = finishB (outB d neg) neg Q (n1 + 1137) := ⟨_, rfl⟩
 rw [← hF]
 have HM := Lib.hid hmore
 have HQ := Lib.hid hQ
 have HF := Lib.hid hF
 have HMO := Lib.hid hmo
 clear hmore hQ hF hmo
 go_enter Tryz.func88, Tryz.ntmps88
 go_upto_region 3 with fail
 go_cut [14] from 16 to 54 (fun m wx => m = .bool more ∧ w = wx)
 case first =>
  rcases hd with rfl | rfl | rfl
  all_goals cases neg <;> cases half <;> cases rest <;> cases odd
  all_goals go_wp2_with fail
  all_goals go_meet
  all_goals exact ⟨by rw [HM.out]; rfl, rfl⟩
 case rest =>
  obtain ⟨hmv, rfl⟩ := hcut
  subst hmv
  clear hand1 hdiv hhl
  go_upto_if 55 with fail
  go_cut [12, 14] from 55 to 57 (fun qv mv wx => qv = .int .u64 (Q : Nat) ∧ mv = .bool more ∧ w = wx)
  case first =>
   have HQ2 : (more = true → Q = q + 1) ∧ (more = false → Q = q) := ⟨fun e => by rw [HQ.out, e]; rfl, fun e => by rw [HQ.out, e]; rfl⟩
   cases hm : more with
   | true =>
    have HQq := Lib.hid (HQ2.1 hm)
    clear HQ2
    go_wp2_with fail
    go_meet
    case rel => exact ⟨by rw [HQq.out]; go_num, by rw [hm], rfl⟩
   | false =>
    have HQq := Lib.hid (HQ2.2 hm)
    clear HQ2
    go_wp2_with fail
    go_meet
    case rel => exact ⟨by rw [HQq.out], by rw [hm], rfl⟩
  case rest =>
   obtain ⟨hqv, hmv, rfl⟩ := hcut
   subst hqv hmv
   have hQl : Q ≤ 9007199254740992 := by have := HQ.out; cases more <;> simp at this <;> omega
   have hQor : n1 = 1 ∨ 4503599627370496 ≤ Q := by have := HQ.out; rcases hor with h | h; exact Or.inl h; right; omega
   go_upto_if 59 with fail
   go_cut [4, 12] from 58 to 61 (fun ev qv wx => (∃ Q2 n2 : Nat, ev = .int .i64 ((n2 : Int) - 1075) ∧ qv = .int .u64 (Q2 : Nat) ∧ ((Q ≠ 9007199254740992 ∧ Q2 = Q ∧ n2 = n1) ∨ (Q = 9007199254740992 ∧ Q2 = 4503599627370496 ∧ n2 = n1 + 1))) ∧ w = wx)
   case first =>
    by_cases hQe : Q = 9007199254740992
    ·have hb : ((Q : Int) == 9007199254740992) = true := by rw [beq_iff_eq]; omega
     have HQe := Lib.hid hQe
     clear hQe
     go_wp2_with fail
     go_meet
     case rel => exact ⟨⟨4503599627370496, n1 + 1, by go_num, rfl, Or.inr ⟨HQe.out, rfl, rfl⟩⟩, rfl⟩
    ·have hb : ((Q : Int) == 9007199254740992) = false := by rw [beq_eq_false_iff_ne]; omega
     have HQe := Lib.hid hQe
     clear hQe
     go_wp2_with fail
     go_meet
     case rel => exact ⟨⟨Q, n1, rfl, rfl, Or.inl ⟨HQe.out, rfl, rfl⟩⟩, rfl⟩
   case rest =>
    obtain ⟨⟨Q2, n2, hev, hqv, hdis⟩, rfl⟩ := hcut
    subst hev hqv
    have hfin := fin_norm (outB d neg) neg Q n1 Q2 n2 hQl hn hQor hdis
    rw [← HF.out] at hfin
    have hQ2l : Q2 < 9007199254740992 := by omega
    have hn2p : 1 ≤ n2 := by omega
    have hn2l : n2 ≤ 100001 := by omega
    have hQ2or : n2 = 1 ∨ 4503599627370496 ≤ Q2 := by omega
    clear hdis hQor hQl hor hand2 hql hn hn2
    by_cases hin : n2 ≤ 2046
    ·rw [if_pos hin] at hfin
     have hle : decide ((971 : Int) < (n2 : Int) - 1075) = false := by simp; omega
     have hle2 : (n2 : Int) - 1075 ≤ 971 := by omega
     by_cases hlo : Q2 < 4503599627370496
     ·obtain rfl : n2 = 1 := by omega
      have hge : decide ((4503599627370496 : Int) ≤ (Q2 : Int)) = false := by simp; omega
      by_cases hz : Q2 = 0
      ·subst hz
       rw [show numB neg 0 (1 + 1137) = 0 from if_pos rfl] at hfin
       have HV := Lib.hid hfin
       clear hQ2or hlo hfin
       cases neg with
       | false =>
        go_wp2_with fail
        go_ret2
        rw [HV.out]
        exact ⟨rfl, rfl⟩
       | true =>
        go_wp2_with fail
        go_ret2
        rw [HV.out]
        exact ⟨rfl, rfl⟩
      ·have hpos : (0 : Int) < (Q2 : Int) := by omega
       have hpos2 : 0 < Q2 := by omega
       obtain ⟨S, hS⟩ : ∃ S, S = Q2 + 9223372036854775808 := ⟨_, rfl⟩
       have hsg : bits .or .u64 (Q2 : Int) 9223372036854775808 = ((S : Nat) : Int) := by
        have := u64_or_nat Q2 9223372036854775808 (by omega) (by decide)
        rw [Nat.or_comm, show (9223372036854775808 : Nat) = 2 ^ 63 * 1 by rfl, ← Nat.two_pow_add_eq_or_of_lt (show Q2 < 2 ^ 63 by omega)] at this
        rw [hS, show Q2 + 9223372036854775808 = 2 ^ 63 * 1 + Q2 by omega]
        exact this
       have hnum : numB neg Q2 (1 + 1137) = bif neg then S else Q2 := by
        unfold numB
        rw [if_neg hz]
        cases neg
        ·rw [cond_false, cond_false]; omega
        ·rw [cond_true, cond_true]; omega
       rw [hnum] at hfin
       have HV := Lib.hid hfin
       clear hQ2or hlo hz hfin hnum hS
       cases neg with
       | false =>
        go_wp2_with fail
        go_ret2
        rw [HV.out]
        exact ⟨rfl, rfl⟩
       | true =>
        go_wp2_with fail
        go_ret2
        rw [HV.out]
        exact ⟨rfl, rfl⟩
     ·have hlt : (4503599627370496 : Int) ≤ (Q2 : Int) := by omega
      have hadd : (n2 : Int) - 1075 + 1075 = (n2 : Int) := by omega
      have hsh : IntKind.u64.wrap ((n2 : Int) * 4503599627370496) = ((n2 * 4503599627370496 : Nat) : Int) := by rw [IntKind.wrap_u64]; omega
      obtain ⟨ns, hns⟩ : ∃ ns, ns = n2 * 4503599627370496 := ⟨_, rfl⟩
      obtain ⟨mq, hmq⟩ : ∃ mq, mq = fman Q2 := ⟨_, rfl⟩
      have hman := and_man Q2 (by unfold B64; omega)
      rw [← hmq] at hman
      rw [← hns] at hsh
      have hmqv : mq = Q2 - 4503599627370496 := by rw [hmq]; unfold fman; omega
      obtain ⟨T, hT⟩ : ∃ T, T = Q2 + (n2 - 1) * 4503599627370496 := ⟨_, rfl⟩
      have hTl : T < 9223372036854775808 := by omega
      have hor2 : bits .or .u64 (ns : Int) (mq : Int) = (T : Int) := by
       have := u64_or_nat ns mq (by omega) (by omega)
       rw [this]
       rw [hns, Nat.mul_comm n2, show (4503599627370496 : Nat) = 2 ^ 52 by rfl, ← Nat.two_pow_add_eq_or_of_lt (show mq < 2 ^ 52 by omega)]
       omega
      have hTp : (0 : Int) < (T : Int) := by omega
      have hTp2 : 0 < T := by omega
      obtain ⟨S, hS⟩ : ∃ S, S = T + 9223372036854775808 := ⟨_, rfl⟩
      have hsg : bits .or .u64 (T : Int) 9223372036854775808 = ((S : Nat) : Int) := by
       have := u64_or_nat T 9223372036854775808 (by omega) (by decide)
       rw [Nat.or_comm, show (9223372036854775808 : Nat) = 2 ^ 63 * 1 by rfl, ← Nat.two_pow_add_eq_or_of_lt (show T < 2 ^ 63 by omega)] at this
       rw [hS, show T + 9223372036854775808 = 2 ^ 63 * 1 + T by omega]
       exact this
      have hnum : numB neg Q2 (n2 + 1137) = bif neg then S else T := by
       unfold numB
       rw [if_neg (by omega)]
       cases neg
       ·rw [cond_false, cond_false]; omega
       ·rw [cond_true, cond_true]; omega
      rw [hnum] at hfin
      have HV := Lib.hid hfin
      have hn0 : (0 : Int) ≤ (n2 : Int) := by omega
      clear hQ2or hlo hfin hnum hS hT hns hmq hmqv
      cases neg with
      | false =>
       go_wp2_with fail
       go_ret2
       rw [HV.out]
       exact ⟨rfl, rfl⟩
      | true =>
       go_wp2_with fail
       go_ret2
       rw [HV.out]
       exact ⟨rfl, rfl⟩
    ·rw [if_neg hin] at hfin
     have hlt : (4503599627370496 : Int) ≤ (Q2 : Int) := by omega
     have hgt : (971 : Int) < (n2 : Int) - 1075 := by omega
     have hgt2 : decide ((n2 : Int) - 1075 ≤ 971) = false := by simp; omega
     have hmost1 : numB false 9007199254740991 3183 = 9218868437227405311 := by decide
     have hmost2 : numB true 9007199254740991 3183 = 18442240474082181119 := by decide
     have hsg : bits .or .u64 9218868437227405311 9223372036854775808 = 18442240474082181119 := by decide +kernel
     have HMO2 := HMO.out
     clear hQ2or hin
     rcases hd with rfl | rfl | rfl
     all_goals cases neg <;> cases more
     all_goals first | (exfalso; exact absurd (HMO2 rfl) (by decide)) | skip
     all_goals (simp only [outB, hmost1, hmost2] at hfin; have HV := Lib.hid hfin; clear hfin HMO2 HMO)
     all_goals go_wp2_with fail
     all_goals go_ret2
     all_goals rw [HV.out]
     all_goals exact ⟨rfl, rfl⟩
set_option linter.unusedVariables false
set_option linter.unusedSimpArgs false
open Go Go.RowKit
set_option maxRecDepth 100000
theorem Over2_right (w : World) (v : Value) (M q r : Nat) (E : Int) (L0 : Nat) (hL0 : L0 ≤ 1000) (h : MagIs w v M) (hM : M < W32 ^ L0) (hq : q ≤ 100000) (hr : r ≤ 31) (hs0 : 0 < 32 * q + r) (hE : -1000000 ≤ E ∧ E ≤ 1000000) :
  Calls Tryz.prog 87 #[.agg #[.bool false, v, .int .i64 E], .int .i64 (E + ((32 * q + r : Nat) : Int))] w fun e w' => ∃ v', e = .returned (.tuple #[.agg #[.bool false, v', .int .i64 0], .bool (M % 2 ^ (32 * q + r) != 0)]) ∧ MagIs w' v' (M / 2 ^ (32 * q + r)) ∧ Below w.heap.size w w' := by
 have hl := fun (w1 : World) (h1 : Below w.heap.size w w1) => right_any w1 v M q r L0 (by omega) (h.below h1) hM hq hr
 obtain ⟨s, hs⟩ : ∃ s : Nat, s = 32 * q + r := ⟨_, rfl⟩
 have hsl : s ≤ 4000000 := by omega
 rw [← hs] at hl hs0
 rw [← hs]
 generalize (M % 2 ^ s != 0) = rb at *
 have hge : decide (E + (s : Int) ≤ E) = false := by simp; omega
 have hsub : E + (s : Int) - E = (s : Int) := by omega
 have hb := below_alloc w (.cells #[.bool false, v, .int .i64 E] 70)
 have hb2 := hb.trans ((below_alloc (w.alloc (.cells #[.bool false, v, .int .i64 E] 70)) (.cells #[.bool false, .slice none 0 0, .int .i64 0] 70)).mono (by simp))
 have hl2 := hl _ hb2
 have hgc := heap_alloc_new (w.alloc (.cells #[.bool false, v, .int .i64 E] 70)) (.cells #[.bool false, .slice none 0 0, .int .i64 0] 70)
 have hsz : (w.alloc (.cells #[.bool false, v, .int .i64 E] 70)).heap.size = w.heap.size + 1 := by simp
 rw [hsz] at hgc
 clear hl hs h hM hb hsz
 go_enter Tryz.func87, Tryz.ntmps87
 go_wp2_with fail
 generalize hW : (w.alloc (.cells #[.bool false, v, .int .i64 E] 70)).alloc (.cells #[.bool false, .slice none 0 0, .int .i64 0] 70) = W at *
 have hWs : W.heap.size = w.heap.size + 1 + 1 := by rw [← hW]; simp
 clear hW
 refine hl2.mono ?_
 rintro e w1 ⟨v', rfl, hm, hb3⟩
 have hg1 := (hb3.block (w.heap.size + 1) (by omega)).trans hgc
 obtain ⟨k0, k1, k2⟩ : w1.cell? ⟨w.heap.size + 1, 0, none⟩ = some (.bool false) ∧ w1.cell? ⟨w.heap.size + 1, 1, none⟩ = some (.slice none 0 0) ∧ w1.cell? ⟨w.heap.size + 1, 2, none⟩ = some (.int .i64 0) := by
  refine ⟨?_, ?_, ?_⟩ <;> (rw [cell_of_row _ _ _ _ _ _ hg1]; rfl)
 obtain ⟨A', n', cap', rfl, _⟩ := hm.form
 have hfr : ∀ j, w1.frozen? ⟨w.heap.size + 1, j, none⟩ = false := fun j => frozen_of_row w1 _ j _ _ hg1
 have hbel : Below w.heap.size w w1 := hb2.trans (hb3.mono (by omega))
 go_wp2_with fail
 obtain ⟨hg3, hgr⟩ := set3 hg1 (.bool false) (.slice A' n' cap') (.int .i64 0)
 have hm3 := hm.other hg1 hgr
 have hbel3 := hbel.trans (below_of_grown' hgr hbel.size (by omega))
 generalize ((w1.setCell ⟨w.heap.size + 1, 0, none⟩ (.bool false)).setCell ⟨w.heap.size + 1, 1, none⟩ (.slice A' n' cap')).setCell ⟨w.heap.size + 1, 2, none⟩ (.int .i64 0) = W3 at *
 obtain ⟨j0, j1, j2⟩ : W3.cell? ⟨w.heap.size + 1, 0, none⟩ = some (.bool false) ∧ W3.cell? ⟨w.heap.size + 1, 1, none⟩ = some (.slice A' n' cap') ∧ W3.cell? ⟨w.heap.size + 1, 2, none⟩ = some (.int .i64 0) := by
  refine ⟨?_, ?_, ?_⟩ <;> (rw [cell_of_row _ _ _ _ _ _ hg3]; rfl)
 refine bodyPost_ret (v := .tuple #[.agg #[.bool false, .slice A' n' cap', .int .i64 0], .bool rb]) (by simp [results, Tryz.results87, go_sem, j0, j1, j2]) rfl ?_
 exact ⟨_, rfl, hm3, hbel3⟩
/-- The greatest whole number not above M * 2^(E - N), and whether something is left over. -/
def overH (M : Nat) (s : Int) : Nat × Bool := if 0 ≤ s then (M * 2 ^ s.toNat, false) else (M / 2 ^ (-s).toNat, M % 2 ^ (-s).toNat != 0)
theorem Over2_any (w : World) (v : Value) (M : Nat) (E N : Int) (L0 : Nat) (hL0 : L0 ≤ 1000) (h : MagIs w v M) (hM : M < W32 ^ L0) (hE : -100000 ≤ E ∧ E ≤ 100000) (hN : -100000 ≤ N ∧ N ≤ 100000) :
  Calls Tryz.prog 87 #[.agg #[.bool false, v, .int .i64 E], .int .i64 N] w fun e w' => ∃ v', e = .returned (.tuple #[.agg #[.bool false, v', .int .i64 0], .bool (overH M (E - N)).2]) ∧ MagIs w' v' (overH M (E - N)).1 ∧ Below w.heap.size w w' := by
 unfold overH
 by_cases hs : 0 ≤ E - N
 ·rw [if_pos hs]
  obtain ⟨s, hse⟩ : ∃ s, s = (E - N).toNat := ⟨_, rfl⟩
  have h1 := Over2_left w v M (s / 32) (s % 32) N L0 hL0 h hM (by omega) (by omega) (by omega)
  rw [show 32 * (s / 32) + s % 32 = s by omega, show N + ((s : Nat) : Int) = E by omega] at h1
  rw [← hse]
  exact h1
 ·rw [if_neg hs]
  obtain ⟨s, hse⟩ : ∃ s, s = (-(E - N)).toNat := ⟨_, rfl⟩
  have h1 := Over2_right w v M (s / 32) (s % 32) E L0 hL0 h hM (by omega) (by omega) (by omega) (by omega)
  rw [show 32 * (s / 32) + s % 32 = s by omega, show E + ((s : Nat) : Int) = N by omega] at h1
  rw [← hse]
  exact h1
theorem over_scaled (M P nn : Nat) (s : Int) (hs : s = (P : Int) - (nn : Int)) : overH M s = (M * 2 ^ P / 2 ^ nn, M * 2 ^ P % 2 ^ nn != 0) := by
 unfold overH
 by_cases h : 0 ≤ s
 ·rw [if_pos h]
  obtain ⟨t, rfl⟩ : ∃ t, P = nn + t := ⟨P - nn, by omega⟩
  have e : M * 2 ^ (nn + t) = 2 ^ nn * (M * 2 ^ t) := by rw [Nat.pow_add]; ac_rfl
  rw [e, Nat.mul_div_cancel_left _ (Nat.two_pow_pos nn), Nat.mul_mod_right, show s.toNat = t by omega]
  rfl
 ·rw [if_neg h]
  obtain ⟨t, rfl⟩ : ∃ t, nn = P + t := ⟨nn - P, by omega⟩
  have hp := Nat.two_pow_pos P
  rw [show (-s).toNat = t by omega, Nat.pow_add, Nat.mul_comm M, Nat.mul_div_mul_left _ _ hp, Nat.mul_mod_mul_left]
  congr 1
  rw [Bool.eq_iff_iff, bne_iff_ne, bne_iff_ne]
  constructor
  ·intro h1 h2
   rcases Nat.mul_eq_zero.1 h2 with h3 | h3 <;> omega
  ·intro h1 h2
   rw [h2, Nat.mul_zero] at h1
   exact h1 rfl
/-- What acc tells, by the half bit and what lies below it. -/
theorem told_split (d : Int) (neg : Bool) (Mz nn : Nat) (hd : d = 0 ∨ d = 1 ∨ d = 2) (hM : Mz ≠ 0) (hn : nn = shiftOf Mz) (h1 : 1 ≤ nn) :
  toldB d neg Mz = finishB (outB d neg) neg (Mz / 2 ^ (nn - 1) / 2 + (moreB d neg (Mz / 2 ^ (nn - 1) % 2 == 1) (Mz % 2 ^ (nn - 1) != 0) (Mz / 2 ^ (nn - 1) / 2 % 2 == 1)).toNat) nn := by
 obtain ⟨m, rfl⟩ : ∃ m, nn = m + 1 := ⟨nn - 1, by omega⟩
 rw [Nat.add_sub_cancel]
 have hp := Nat.two_pow_pos m
 have e1 : Mz / 2 ^ (m + 1) = Mz / 2 ^ m / 2 := by rw [Nat.pow_succ, Nat.div_div_eq_div_mul]
 have e2 : Mz % 2 ^ (m + 1) = Mz % 2 ^ m + 2 ^ m * (Mz / 2 ^ m % 2) := by rw [Nat.pow_succ, Nat.mod_mul]
 have hlt := Nat.mod_lt Mz hp
 have hN : upN Mz (m + 1) = moreB 0 neg (Mz / 2 ^ m % 2 == 1) (Mz % 2 ^ m != 0) (Mz / 2 ^ m / 2 % 2 == 1) := by
  unfold upN moreB
  rw [Nat.add_sub_cancel, e1, e2]
  generalize Mz % 2 ^ m = s at *
  have hb : Mz / 2 ^ m % 2 = 0 ∨ Mz / 2 ^ m % 2 = 1 := by omega
  generalize Mz / 2 ^ m / 2 % 2 = o
  rcases hb with hb | hb
  ·rw [hb, Nat.mul_zero, Nat.add_zero, decide_eq_false (by omega), beq_eq_false_iff_ne.2 (show s ≠ 2 ^ m by omega)]
   simp
  ·rw [hb, Nat.mul_one]
   by_cases h0 : s = 0
   ·rw [h0, Nat.zero_add, decide_eq_false (Nat.lt_irrefl _), beq_self_eq_true]
    simp
   ·rw [decide_eq_true (show 2 ^ m < s + 2 ^ m by omega), bne_iff_ne.2 h0]
    simp
 have hF : ∀ out, upF out Mz (m + 1) = (out && ((Mz / 2 ^ m % 2 == 1) || (Mz % 2 ^ m != 0))) := by
  intro out
  unfold upF
  rw [e2]
  generalize Mz % 2 ^ m = s at *
  have hb : Mz / 2 ^ m % 2 = 0 ∨ Mz / 2 ^ m % 2 = 1 := by omega
  congr 1
  rcases hb with hb | hb
  ·rw [hb, Nat.mul_zero, Nat.add_zero]
   rw [Bool.eq_iff_iff, decide_eq_true_iff]
   simp
   omega
  ·rw [hb, Nat.mul_one, decide_eq_true (by omega)]
   simp
 rcases hd with rfl | hd
 ·rw [toldB_near neg _ hM, ← hn, hN, e1]
  rfl
 ·rw [toldB_far d neg _ hM hd, ← hn, hF, e1]
  rcases hd with rfl | rfl <;> cases neg <;> simp [moreB, outB]
end Go.Proofs.YtpfbgenefjhcjaaGreatDoor
namespace Go.Proofs.YtpfbgenefjhcjaaGreatDoor
set_option linter.unusedVariables false
set_option linter.unusedSimpArgs false
open Go Go.RowKit
set_option maxRecDepth 100000
end Go.Proofs.YtpfbgenefjhcjaaGreatDoor
namespace Go.Proofs.YtpfbgenefjhcjaaGreatDoor
set_option linter.unusedVariables false
set_option linter.unusedSimpArgs false
open Go Go.RowKit
set_option maxRecDepth 100000
theorem overH_fst (M P nn : Nat) (s : Int) (hs : s = (P : Int) - (nn : Int)) : (overH M s).1 = M * 2 ^ P / 2 ^ nn := by rw [over_scaled M P nn s hs]
theorem refRound_bad (w : World) (neg : Bool) (A : Option Addr) (n cap : Nat) (E d : Int) (hd : d < 0 ∨ 2 < d) (hd1 : -9223372036854775808 ≤ d) (hd2 : d ≤ 9223372036854775807) :
  Calls Tryz.prog 42 #[.int .i64 d, .agg #[.bool neg, .slice A n cap, .int .i64 E]] w fun e w' => e = .returned (.tuple #[.int .u64 0, .bool false]) ∧ Below w.heap.size w w' := by
 by_cases h1 : d < 0
 ·go_enter Tryz.func42, Tryz.ntmps42
  go_wp2_with fail
  go_ret2
  exact ⟨rfl, below_alloc w _⟩
 ·have h2 : 2 < d := by omega
  have h3 : decide (d < 0) = false := by simp; omega
  go_enter Tryz.func42, Tryz.ntmps42
  go_wp2_with fail
  go_ret2
  exact ⟨rfl, below_alloc w _⟩
theorem refRound_zero (w : World) (neg : Bool) (A : Option Addr) (cap : Nat) (E d : Int) (hd : d = 0 ∨ d = 1 ∨ d = 2) :
  Calls Tryz.prog 42 #[.int .i64 d, .agg #[.bool neg, .slice A 0 cap, .int .i64 E]] w fun e w' => e = .returned (.tuple #[.int .u64 0, .bool true]) ∧ Below w.heap.size w w' := by
 rcases hd with rfl | rfl | rfl
 all_goals go_enter Tryz.func42, Tryz.ntmps42
 all_goals go_wp2_with fail
 all_goals go_ret2
 all_goals exact ⟨rfl, below_alloc w _⟩
set_option maxHeartbeats 8000000 in
theorem refRound_num (w : World) (d : Int) (neg : Bool) (v : Value) (M n1 L0 : Nat) (E : Int) (hd : d = 0 ∨ d = 1 ∨ d = 2) (h : MagIs w v M) (hM0 : M ≠ 0) (hL0 : L0 ≤ 1000) (hM : M < W32 ^ L0) (hE1 : -10000 ≤ E) (hE2 : E ≤ 10000) (hn : (n1 : Int) = max ((blen M : Int) + E - 53) (-1074) + 1075) :
  Calls Tryz.prog 42 #[.int .i64 d, .agg #[.bool neg, v, .int .i64 E]] w fun e w' =>
   e = .returned (.tuple #[.int .u64 (((finishB (outB d neg) neg ((overH M (E - ((n1 : Int) - 1076))).1 / 2 + (moreB d neg ((overH M (E - ((n1 : Int) - 1076))).1 % 2 == 1) (overH M (E - ((n1 : Int) - 1076))).2 ((overH M (E - ((n1 : Int) - 1076))).1 / 2 % 2 == 1)).toNat) (n1 + 1137)).1 : Nat) : Int), .bool (finishB (outB d neg) neg ((overH M (E - ((n1 : Int) - 1076))).1 / 2 + (moreB d neg ((overH M (E - ((n1 : Int) - 1076))).1 % 2 == 1) (overH M (E - ((n1 : Int) - 1076))).2 ((overH M (E - ((n1 : Int) - 1076))).1 / 2 % 2 == 1)).toNat) (n1 + 1137)).2]) ∧ Below w.heap.size w w' := by
 have hbl : blen M ≤ 32 * L0 := blen_le M (32 * L0) (by rw [← W32_two]; exact hM)
 have hlen := fun (w1 : World) (h1 : Below w.heap.size w w1) => length_any w1 v M (h.below h1)
 obtain ⟨L, hL⟩ : ∃ L, L = blen M := ⟨_, rfl⟩
 rw [← hL] at hn hbl hlen
 obtain ⟨A, c, cap, rfl, hc, hc0⟩ := h.form
 have hcne : c ≠ 0 := fun e => hM0 (hc0.1 e)
 have hc1 : ((c : Int) == 0) = false := by rw [beq_eq_false_iff_ne]; omega
 have hmag := fun (w1 : World) (h1 : Below w.heap.size w w1) => h.below (w1 := w1) h1
 have hb0 := below_alloc w (.cells #[.bool neg, .slice A c cap, .int .i64 E] 70)
 have hl0 := hlen _ (hb0.drew)
 have hcells := heap_alloc_new w (.cells #[.bool neg, .slice A c cap, .int .i64 E] 70)
 obtain ⟨oh, hoh⟩ : ∃ oh, oh = overH M (E - ((n1 : Int) - 1076)) := ⟨_, rfl⟩
 rw [← hoh]
 -- h has 54 bits at the most
 have hn1p : 1 ≤ n1 := by omega
 have hnl : n1 ≤ 100000 := by omega
 have hfst : oh.1 < 18014398509481984 ∧ (n1 = 1 ∨ 4503599627370496 ≤ oh.1 / 2) := by
  have hP : E - ((n1 : Int) - 1076) = (((E + 20000).toNat : Nat) : Int) - (((n1 + 18924 : Nat)) : Int) := by omega
  rw [hoh, overH_fst M (E + 20000).toNat (n1 + 18924) _ hP]
  generalize hPP : (E + 20000).toNat = P
  have hMp : 0 < M := by omega
  have hbM := blen_shift M P hMp
  have hlo := isLen_blen (M * 2 ^ P)
  rw [hbM, ← hL] at hlo
  constructor
  ·rw [Nat.div_lt_iff_lt_mul (Nat.two_pow_pos _)]
   refine Nat.lt_of_lt_of_le hlo.1 ?_
   rw [show (18014398509481984 : Nat) = 2 ^ 54 from rfl, ← Nat.pow_add]
   exact Nat.pow_le_pow_right (by decide) (by omega)
  ·by_cases h1 : n1 = 1
   ·exact Or.inl h1
   ·right
    rw [Nat.div_div_eq_div_mul, ← Nat.pow_succ, Nat.le_div_iff_mul_le (Nat.two_pow_pos _)]
    rw [show (4503599627370496 : Nat) = 2 ^ 52 from rfl, ← Nat.pow_add]
    exact Nat.le_trans (Nat.pow_le_pow_right (by decide) (by omega)) (hlo.2 (by omega))
 obtain ⟨hoh1, hoh2⟩ := hfst
 obtain ⟨RB, hRB⟩ : ∃ RB, RB = finishB (outB d neg) neg (oh.1 / 2 + (moreB d neg (oh.1 % 2 == 1) oh.2 (oh.1 / 2 % 2 == 1)).toNat) (n1 + 1137) := ⟨_, rfl⟩
 rw [← hRB]
 have HRB := Lib.hid hRB
 have hd0 : decide (d < 0) = false := by simp; omega
 have hd2 : decide (2 < d) = false := by simp; omega
 have hw1 : IntKind.i64.wrap ((L : Int) + E) = (L : Int) + E := by rw [IntKind.wrap_i64]; omega
 have hw2 : IntKind.i64.wrap ((L : Int) + E - 53) = (L : Int) + E - 53 := by rw [IntKind.wrap_i64]; omega
 have hmx : max ((L : Int) + E - 53) (-1074) = (n1 : Int) - 1075 := by omega
 have HL := Lib.hid hL
 have HN := Lib.hid hn
 have HO := Lib.hid hoh
 clear hL hn hc0 h hlen hRB hoh
 go_enter Tryz.func42, Tryz.ntmps42
 go_wp2_with fail
 go_cut [6] from 19 to 26 (fun ev wx => ev = .int .i64 ((n1 : Int) - 1075) ∧ wx = (w.alloc (.cells #[.bool neg, .slice A c cap, .int .i64 E] 70)).drew)
 case first =>
  go_region_with ((go_at_call 86; refine hl0.mono ?_; rintro e w1 ⟨rfl, rfl⟩))
  all_goals go_wp2_with fail
  all_goals go_meet
  all_goals exact ⟨rfl, rfl⟩
 case rest =>
  obtain ⟨hev, rfl⟩ := hcut
  subst hev
  clear hl0
  go_wp2_with fail
  have hb1 : Below w.heap.size w (w.alloc (.cells #[.bool neg, .slice A c cap, .int .i64 E] 70)).drew := hb0.drew
  have hc1' : (w.alloc (.cells #[.bool neg, .slice A c cap, .int .i64 E] 70)).drew.heap[w.heap.size]? = some (.cells #[.bool neg, .slice A c cap, .int .i64 E] 70 (0, 0)) := hcells
  have hs1 : (w.alloc (.cells #[.bool neg, .slice A c cap, .int .i64 E] 70)).drew.heap.size = w.heap.size + 1 := by simp
  clear hcells hb0
  generalize (w.alloc (.cells #[.bool neg, .slice A c cap, .int .i64 E] 70)).drew = W1 at *
  refine (Size_any W1 neg A c cap E).mono ?_
  rintro e w2 ⟨rfl, hb2⟩
  have hb12 := hb1.trans (hb2.mono hb1.size)
  have hc2 := (hb2.block w.heap.size (by omega)).trans hc1'
  have hov := Over2_any w2 (.slice A c cap) M E ((n1 : Int) - 1076) L0 hL0 (hmag w2 hb12) hM (by omega) (by omega)
  rw [← HO.out] at hov
  have hn1 : (n1 : Int) - 1075 - 1 = (n1 : Int) - 1076 := by omega
  have hlt2 : w.heap.size < w2.heap.size := by have := hb2.size; omega
  clear hb1 hc1' hs1 hb2 hmag
  go_wp2_with fail
  refine hov.mono ?_
  rintro e w3 ⟨v', rfl, hm3, hb3⟩
  have hc3 := (hb3.block w.heap.size hlt2).trans hc2
  have hb13 := hb12.trans (hb3.mono hb12.size)
  obtain ⟨A', n', cap', rfl, _⟩ := hm3.form
  clear hov hb3 hc2 hb12
  go_wp2_with fail
  have hb7 := hb13.trans ((below_alloc w3 (.cells #[.bool false, .slice A' n' cap', .int .i64 0] 70)).mono hb13.size)
  have hm7 := hm3.below (below_alloc w3 (.cells #[.bool false, .slice A' n' cap', .int .i64 0] 70))
  have hg7 := heap_alloc_new w3 (.cells #[.bool false, .slice A' n' cap', .int .i64 0] 70)
  have hc7 := ((below_alloc w3 (.cells #[.bool false, .slice A' n' cap', .int .i64 0] 70)).block w.heap.size (by have := (Array.getElem?_eq_some_iff.1 hc3).1; exact this)).trans hc3
  have f0 : (w3.alloc (.cells #[.bool false, .slice A' n' cap', .int .i64 0] 70)).cell? ⟨w.heap.size, 0, none⟩ = some (.bool neg) := by rw [cell_of_row _ _ _ _ _ _ hc7]; rfl
  have f1 : (w3.alloc (.cells #[.bool false, .slice A' n' cap', .int .i64 0] 70)).cell? ⟨w3.heap.size, 1, none⟩ = some (.slice A' n' cap') := by rw [cell_of_row _ _ _ _ _ _ hg7]; rfl
  clear hc7 hg7 hc3 hm3 hb13 hlt2
  generalize w3.alloc (.cells #[.bool false, .slice A' n' cap', .int .i64 0] 70) = W7 at *
  generalize w3.heap.size = g7 at *
  have hword := word_any W7.drew (.slice A' n' cap') oh.1 (hm7.heap rfl) (by unfold B64; omega)
  have htold := rtold_any W7.drew d neg oh.2 oh.1 n1 hd hoh1 hn1p hnl hoh2
  rw [← HRB.out] at htold
  clear hm7 HRB HO hoh1 hoh2
  generalize oh.1 = H at *
  generalize oh.2 = rb at *
  go_region_held3 (fun w' => w'.cell? ⟨w.heap.size, 0, none⟩ = some (.bool neg) ∧ w'.cell? ⟨g7, 1, none⟩ = some (.slice A' n' cap'))
   (go_keep)
   (first
    | (go_at_call 89; refine hword.mono ?_; rintro e w' ⟨rfl, rfl⟩)
    | (go_at_call 88; refine htold.mono ?_; rintro e w' ⟨rfl, rfl⟩))
  all_goals go_wp2_with fail
  all_goals go_ret2
  all_goals exact ⟨rfl, hb7.drew⟩
/-- A document's number: its real in the lowest bit's units. -/
def NumIs (w : World) (neg : Bool) (v : Value) (E : Int) (z : Int) : Prop :=
 ∃ M : Nat, MagIs w v M ∧ (M = 0 → E = 0) ∧ -2212 ≤ E ∧ E ≤ 5000 ∧ M < W32 ^ 400 ∧ z = (if neg = true then -((M * 2 ^ (E + 2212).toNat : Nat) : Int) else ((M * 2 ^ (E + 2212).toNat : Nat) : Int))
theorem roundS_some (d : Int) (z : Int) : roundS d (some z) = toldB d (decide (z < 0)) z.natAbs := rfl
theorem refRound_any (w : World) (d : Int) (neg : Bool) (v : Value) (E z : Int) (h : NumIs w neg v E z) (hd1 : -9223372036854775808 ≤ d) (hd2 : d ≤ 9223372036854775807) :
  Calls Tryz.prog 42 #[.int .i64 d, .agg #[.bool neg, v, .int .i64 E]] w fun e w' => e = .returned (.tuple #[.int .u64 ((roundS d (some z)).1 : Nat), .bool (roundS d (some z)).2]) ∧ Below w.heap.size w w' := by
 obtain ⟨M, hm, hE0, hE1, hE2, hM, hz⟩ := h
 have hab : z.natAbs = M * 2 ^ (E + 2212).toNat := by rw [hz]; split <;> omega
 obtain ⟨A, n, cap, rfl, hn, hn0⟩ := hm.form
 by_cases hd : d < 0 ∨ 2 < d
 ·rw [roundS_some, toldB_bad d _ _ hd]
  exact refRound_bad w neg A n cap E d hd hd1 hd2
 ·have hd3 : d = 0 ∨ d = 1 ∨ d = 2 := by omega
  by_cases hM0 : M = 0
  ·obtain rfl : n = 0 := hn0.2 hM0
   rw [roundS_some, hab, hM0, Nat.zero_mul, toldB_zero d _ hd]
   exact refRound_zero w neg A cap E d hd3
  ·obtain ⟨n1, hn1⟩ : ∃ n1 : Nat, (n1 : Int) = max ((blen M : Int) + E - 53) (-1074) + 1075 := ⟨(max ((blen M : Int) + E - 53) (-1074) + 1075).toNat, by omega⟩
   have hr := refRound_num w d neg (.slice A n cap) M n1 400 E hd3 hm hM0 (by decide) hM (by omega) (by omega) hn1
   obtain ⟨P, hP⟩ : ∃ P, P = (E + 2212).toNat := ⟨_, rfl⟩
   rw [← hP] at hab hz
   have hMp : 0 < M := by omega
   have hzp : 0 < M * 2 ^ P := Nat.mul_pos hMp (Nat.two_pow_pos P)
   have hsg : decide (z < 0) = neg := by
    rw [hz]
    cases neg
    ·rw [if_neg (by decide)]; exact decide_eq_false (by omega)
    ·rw [if_pos rfl]; exact decide_eq_true (by omega)
   have hsh : n1 + 1137 = shiftOf (M * 2 ^ P) := by
    unfold shiftOf
    rw [blen_shift M P hMp]
    omega
   rw [over_scaled M P (n1 + 1136) (E - ((n1 : Int) - 1076)) (by omega)] at hr
   rw [roundS_some, hab, hsg, told_split d neg (M * 2 ^ P) (n1 + 1137) hd3 (by omega) hsh (by omega), show n1 + 1137 - 1 = n1 + 1136 by omega]
   exact hr
end Go.Proofs.YtpfbgenefjhcjaaGreatDoor
