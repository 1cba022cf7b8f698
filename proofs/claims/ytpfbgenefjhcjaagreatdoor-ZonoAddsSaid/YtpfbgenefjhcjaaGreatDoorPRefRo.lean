/-
 ambitref2.Over2, told, Round, where nothing is left over.
 ambitref2.right: a row of limbs shifted down, and whether something is left over.
-/
import Derived.Test.YtpfbgenefjhcjaaGreatDoorPRefLo
import Derived.Deep.RegionHeld3
import Derived.Deep.RegionWith
namespace Go.Proofs.YtpfbgenefjhcjaaGreatDoor
set_option linter.unusedVariables false
set_option linter.unusedSimpArgs false
open Go Go.RowKit
set_option maxRecDepth 100000
theorem set3 {w : World} {g : Nat} {t : TypeId} {a0 a1 a2 : Value} (h : w.heap[g]? = some (.cells #[a0, a1, a2] t (0, 0))) (b0 b1 b2 : Value) :
  (((w.setCell ⟨g, 0, none⟩ b0).setCell ⟨g, 1, none⟩ b1).setCell ⟨g, 2, none⟩ b2).heap[g]? = some (.cells #[b0, b1, b2] t (0, 0)) ∧ w.grownBy (((w.setCell ⟨g, 0, none⟩ b0).setCell ⟨g, 1, none⟩ b1).setCell ⟨g, 2, none⟩ b2) (some g) := by
 have h0 : (w.setCell ⟨g, 0, none⟩ b0).heap[g]? = some (.cells #[b0, a1, a2] t (0, 0)) := heap_setCell_same w g 0 _ _ _ h
 have h1 : ((w.setCell ⟨g, 0, none⟩ b0).setCell ⟨g, 1, none⟩ b1).heap[g]? = some (.cells #[b0, b1, a2] t (0, 0)) := heap_setCell_same _ g 1 _ _ _ h0
 have h2 : (((w.setCell ⟨g, 0, none⟩ b0).setCell ⟨g, 1, none⟩ b1).setCell ⟨g, 2, none⟩ b2).heap[g]? = some (.cells #[b0, b1, b2] t (0, 0)) := heap_setCell_same _ g 2 _ _ _ h1
 exact ⟨h2, grown_set (grown_set (grown_set (grown_refl w _) 0 b0) 1 b1) 2 b2⟩
theorem below_of_grown' {w w1 : World} {B g : Nat} (h : w.grownBy w1 (some g)) (hB : B ≤ w.heap.size) (hg : B ≤ g) : Below B w w1 :=
 ⟨h.os, h.tape, h.output, h.size, fun k hk => h.block k (by omega) (fun e => by injection e with e; omega)⟩
/-- A block of another type is written: the row stands. -/
theorem MagIs.other {w w' : World} {v : Value} {M g : Nat} {c : Array Value} (h : MagIs w v M) (hc : w.heap[g]? = some (.cells c 70 (0, 0))) (hg : w.grownBy w' (some g)) : MagIs w' v M := by
 rcases h with h | ⟨gh, n, cap, h1, h2, h3, h4, h5⟩
 ·exact Or.inl h
 ·refine Or.inr ⟨gh, n, cap, h1, h2, h3, h4, h5.grown hg fun e => ?_⟩
  injection e with e
  subst e
  obtain ⟨cur, hcur, _, _⟩ := h5
  rw [hc] at hcur
  injection hcur with hcur
  injection hcur with _ ht _
  exact absurd ht (by decide)
theorem Over2_left (w : World) (v : Value) (M q r : Nat) (E : Int) (L0 : Nat) (hL0 : L0 ≤ 1000) (h : MagIs w v M) (hM : M < W32 ^ L0) (hq : q ≤ 100000) (hr : r ≤ 31) (hE : -1000000 ≤ E ∧ E ≤ 1000000) :
  Calls Tryz.prog 87 #[.agg #[.bool false, v, .int .i64 (E + ((32 * q + r : Nat) : Int))], .int .i64 E] w fun e w' => ∃ v', e = .returned (.tuple #[.agg #[.bool false, v', .int .i64 0], .bool false]) ∧ MagIs w' v' (M * 2 ^ (32 * q + r)) ∧ Below w.heap.size w w' := by
 have hn : ∀ A n cap, v = .slice A n cap → n ≤ 100000 := fun A n cap hv => by
  rcases h with ⟨h1, _⟩ | ⟨g, n1, cap1, h1, h2, h3, h4, h5⟩
  ·rw [h1] at hv; injection hv with _ e _; omega
  ·rw [h1] at hv
   injection hv with _ e _
   have := NL32_le h4 hM
   omega
 have hl := fun (w1 : World) (h1 : Below w.heap.size w w1) => left_any w1 v M q r (h.below h1) hq hr hn
 obtain ⟨s, hs⟩ : ∃ s : Nat, s = 32 * q + r := ⟨_, rfl⟩
 have hsl : s ≤ 4000000 := by omega
 rw [← hs] at hl
 rw [← hs]
 have hge : E ≤ E + (s : Int) := by omega
 have hsub : E + (s : Int) - E = (s : Int) := by omega
 have hb := below_alloc w (.cells #[.bool false, v, .int .i64 (E + (s : Int))] 70)
 have hb2 := hb.trans ((below_alloc (w.alloc (.cells #[.bool false, v, .int .i64 (E + (s : Int))] 70)) (.cells #[.bool false, .slice none 0 0, .int .i64 0] 70)).mono (by simp))
 have hl2 := hl _ hb2
 have hgc := heap_alloc_new (w.alloc (.cells #[.bool false, v, .int .i64 (E + (s : Int))] 70)) (.cells #[.bool false, .slice none 0 0, .int .i64 0] 70)
 have hsz : (w.alloc (.cells #[.bool false, v, .int .i64 (E + (s : Int))] 70)).heap.size = w.heap.size + 1 := by simp
 rw [hsz] at hgc
 clear hl hs hn h hM hb hsz
 go_enter Tryz.func87, Tryz.ntmps87
 go_wp2_with fail
 generalize hW : (w.alloc (.cells #[.bool false, v, .int .i64 (E + (s : Int))] 70)).alloc (.cells #[.bool false, .slice none 0 0, .int .i64 0] 70) = W at *
 have hWs : W.heap.size = w.heap.size + 1 + 1 := by rw [← hW]; simp
 clear hW
 refine hl2.mono ?_
 rintro e w1 ⟨v', rfl, hm, hb3⟩
 have hg1 := (hb3.block (w.heap.size + 1) (by omega)).trans hgc
 obtain ⟨k0, k1, k2⟩ : w1.cell? ⟨w.heap.size + 1, 0, none⟩ = some (.bool false) ∧ w1.cell? ⟨w.heap.size + 1, 1, none⟩ = some (.slice none 0 0) ∧ w1.cell? ⟨w.heap.size + 1, 2, none⟩ = some (.int .i64 0) := by
  refine ⟨?_, ?_, ?_⟩ <;> (rw [cell_of_row _ _ _ _ _ _ hg1]; rfl)
 obtain ⟨A', n', cap', rfl, _⟩ := hm.form
 have hfr : ∀ j, w1.frozen? ⟨w.heap.size + 1, j, none⟩ = false := fun j => frozen_of_row w1 _ j _ _ hg1
 have hbel : Below w.heap.size w w1 := hb2.trans (hb3.mono (by omega))
 go_wp2_with fail
 obtain ⟨hg3, hgr⟩ := set3 hg1 (.bool false) (.slice A' n' cap') (.int .i64 0)
 have hm3 := hm.other hg1 hgr
 have hbel3 := hbel.trans (below_of_grown' hgr hbel.size (by omega))
 generalize ((w1.setCell ⟨w.heap.size + 1, 0, none⟩ (.bool false)).setCell ⟨w.heap.size + 1, 1, none⟩ (.slice A' n' cap')).setCell ⟨w.heap.size + 1, 2, none⟩ (.int .i64 0) = W3 at *
 obtain ⟨j0, j1, j2⟩ : W3.cell? ⟨w.heap.size + 1, 0, none⟩ = some (.bool false) ∧ W3.cell? ⟨w.heap.size + 1, 1, none⟩ = some (.slice A' n' cap') ∧ W3.cell? ⟨w.heap.size + 1, 2, none⟩ = some (.int .i64 0) := by
  refine ⟨?_, ?_, ?_⟩ <;> (rw [cell_of_row _ _ _ _ _ _ hg3]; rfl)
 refine bodyPost_ret (v := .tuple #[.agg #[.bool false, .slice A' n' cap', .int .i64 0], .bool false]) (by simp [results, Tryz.results87, go_sem, j0, j1, j2]) rfl ?_
 exact ⟨_, rfl, hm3, hbel3⟩
end Go.Proofs.YtpfbgenefjhcjaaGreatDoor
namespace Go.Proofs.YtpfbgenefjhcjaaGreatDoor
set_option linter.unusedVariables false
set_option linter.unusedSimpArgs false
open Go Go.RowKit
set_option maxRecDepth 100000
theorem mod_step (M k : Nat) : (M % W32 ^ (k + 1) != 0) = ((M % W32 ^ k != 0) || (dg M k != 0)) := by
 rw [dg_add]
 have hp := W32_pow k
 generalize M % W32 ^ k = s
 rw [Bool.eq_iff_iff, Bool.or_eq_true, bne_iff_ne, bne_iff_ne, bne_iff_ne]
 constructor
 ·intro h
  by_cases h1 : s = 0
  ·right
   intro h2
   rw [h1, h2, Nat.zero_mul] at h
   exact h rfl
  ·exact Or.inl h1
 ·rintro (h | h) h2
  ·omega
  ·have := Nat.mul_pos (Nat.pos_of_ne_zero h) hp
   omega
theorem rest_step (M q r : Nat) (hr : r ≤ 31) : (M % 2 ^ (32 * q + r) != 0) = ((M % W32 ^ q != 0) || (dg M q % 2 ^ r != 0)) := by
 have e : M % 2 ^ (32 * q + r) = M % W32 ^ q + W32 ^ q * (M / W32 ^ q % 2 ^ r) := by
  rw [Nat.pow_add, ← W32_two, Nat.mod_mul]
 have e2 : dg M q % 2 ^ r = M / W32 ^ q % 2 ^ r := by
  unfold dg
  rw [Nat.mod_mod_of_dvd]
  exact ⟨2 ^ (32 - r), by rw [← Nat.pow_add, show r + (32 - r) = 32 by omega]; rfl⟩
 rw [e, e2]
 have hp := W32_pow q
 generalize M / W32 ^ q % 2 ^ r = t
 generalize M % W32 ^ q = s
 rw [Bool.eq_iff_iff, Bool.or_eq_true, bne_iff_ne, bne_iff_ne, bne_iff_ne]
 constructor
 ·intro h
  by_cases h1 : s = 0
  ·right
   intro h2
   rw [h1, h2, Nat.mul_zero] at h
   exact h rfl
  ·exact Or.inl h1
 ·rintro (h | h) h2
  ·omega
  ·have := Nat.mul_pos hp (Nat.pos_of_ne_zero h)
   omega
theorem right_limb (M q r i : Nat) (hr : r ≤ 31) : dg (M / 2 ^ (32 * q + r)) i = (dg M (i + q) + dg M (i + q + 1) * W32) / 2 ^ r % W32 := by
 have e1 : M / 2 ^ (32 * q + r) / W32 ^ i = M / W32 ^ (i + q) / 2 ^ r := by
  rw [W32_two, W32_two, Nat.div_div_eq_div_mul, Nat.div_div_eq_div_mul, ← Nat.pow_add, ← Nat.pow_add]
  congr 2
  omega
 have e2 : M / W32 ^ (i + q + 1) = M / W32 ^ (i + q) / W32 := by rw [Nat.pow_succ, Nat.div_div_eq_div_mul]
 unfold dg
 rw [e1, e2]
 generalize M / W32 ^ (i + q) = N
 have hW : W32 = 2 ^ r * 2 ^ (32 - r) := by rw [← Nat.pow_add, show r + (32 - r) = 32 by omega]; rfl
 have e3 : N % W32 + N / W32 % W32 * W32 = N % (W32 * W32) := by rw [Nat.mod_mul, Nat.mul_comm W32]
 rw [e3]
 have hd : W32 * W32 = 2 ^ r * (2 ^ (32 - r) * W32) := by
  conv => lhs; rw [hW]
  rw [Nat.mul_assoc, ← hW]
 rw [hd, Nat.mod_mul_right_div_self, Nat.mod_mod_of_dvd]
 exact ⟨2 ^ (32 - r), Nat.mul_comm _ _⟩
theorem shl_word (a b : Nat) (ha : a < W32) (hb : b < W32) : bits .or .u64 (a : Int) ((b * 4294967296 : Nat) : Int) = ((a + b * 4294967296 : Nat) : Int) := by
 have h1 := u64_or_nat a (b * 4294967296) (by unfold W32 at ha; omega) (by unfold W32 at hb; omega)
 rw [h1]
 congr 1
 have e : b * 4294967296 = 2 ^ 32 * b := Nat.mul_comm _ _
 rw [e, Nat.or_comm, ← Nat.two_pow_add_eq_or_of_lt (show a < 2 ^ 32 from ha), Nat.add_comm]
set_option maxHeartbeats 16000000 in
theorem right_any (w : World) (v : Value) (M q r L0 : Nat) (hL0 : L0 ≤ 100000) (h : MagIs w v M) (hM : M < W32 ^ L0) (hq : q ≤ 100000) (hr : r ≤ 31) :
  Calls Tryz.prog 126 #[v, .int .i64 ((32 * q + r : Nat) : Int)] w fun e w' => ∃ v', e = .returned (.tuple #[v', .bool (M % 2 ^ (32 * q + r) != 0)]) ∧ MagIs w' v' (M / 2 ^ (32 * q + r)) ∧ Below w.heap.size w w' := by
 obtain ⟨A, n, cap, rfl, hnc, hc, hl, hrow⟩ := h.limbs
 have hn1 := NL32_le hl hM
 have HL := Lib.hid hl.1
 obtain ⟨s, hs⟩ : ∃ s, s = 32 * q + r := ⟨_, rfl⟩
 have hquo : Int.tdiv (s : Int) 32 = (q : Nat) := by rw [Int.tdiv_eq_ediv_of_nonneg (by omega)]; omega
 have hrem : Int.tmod (s : Int) 32 = (r : Nat) := by rw [Int.tmod_eq_emod_of_nonneg (by omega)]; omega
 have hs0 : (0 : Int) ≤ (s : Int) := by omega
 have hsl : s ≤ 4000000 := by omega
 obtain ⟨RB, hRB⟩ : ∃ RB : Bool, RB = (M % 2 ^ (32 * q + r) != 0) := ⟨_, rfl⟩
 rw [← hRB, ← hs]
 have HRB := Lib.hid hRB
 have HS := Lib.hid hs
 clear h hM hl hs hRB
 go_enter Tryz.func126, Tryz.ntmps126
 go_wp2_with fail
 go_loopw [6, 7] (fun b i wr => ∃ k : Nat, k ≤ n ∧ k ≤ q ∧ i = .int .i64 (k : Nat) ∧ b = .bool (M % W32 ^ k != 0) ∧ Below w.heap.size w wr) (fun _ i _ => n - (intOf i).toNat)
 case atStart => exact ⟨0, Nat.zero_le _, Nat.zero_le _, rfl, by rw [Nat.pow_zero, Nat.mod_one]; rfl, Below.refl _ _⟩
 case round =>
  obtain ⟨k, hk, hkq, rfl, rfl, hbel⟩ := hrel
  by_cases hlt : k < n ∧ k < q
  ·obtain ⟨hlt1, hlt2⟩ := hlt
   have hlt1' : (k : Int) < (n : Int) := by omega
   have hlt2' : (k : Int) < (q : Int) := by omega
   have hk0 : (0 : Int) ≤ (k : Int) := by omega
   obtain ⟨g, rfl, hcell⟩ := hrow.at hbel k hlt1
   have hst := mod_step M k
   have hdl := dg_le M k
   have hdd : (((dg M k : Nat) : Int) != 0) = (dg M k != 0) := by rw [Bool.eq_iff_iff, bne_iff_ne, bne_iff_ne]; omega
   have HST := Lib.hid hst
   clear hst
   cases hb : (M % W32 ^ k != 0) with
   | true =>
    have hnew : (M % W32 ^ (k + 1) != 0) = true := by rw [HST.out, hb]; rfl
    have HN := Lib.hid hnew
    clear hnew hb
    go_wp2_with fail
    go_roundw
    case rel => exact ⟨k + 1, by omega, by omega, by go_num, by rw [HN.out], hbel⟩
    case measure => simp [intOf]; omega
   | false =>
    have hnew : (M % W32 ^ (k + 1) != 0) = (dg M k != 0) := by rw [HST.out, hb]; rfl
    have HN := Lib.hid hnew
    clear hnew hb
    go_wp2_with fail
    go_roundw
    case rel => exact ⟨k + 1, by omega, by omega, by go_num, by rw [HN.out], hbel⟩
    case measure => simp [intOf]; omega
  ·by_cases hqn : n ≤ q
   ·obtain rfl : k = n := by omega
    have hlt' : decide ((k : Int) < (k : Nat)) = false := by simp
    have hge : (k : Int) ≤ (q : Int) := by omega
    have hMW : M < 2 ^ (32 * q + r) := Nat.lt_of_lt_of_le HL.out (by rw [W32_two]; exact Nat.pow_le_pow_right (by decide) (by omega))
    have hRB2 : RB = (M % W32 ^ k != 0) := by rw [HRB.out, Nat.mod_eq_of_lt hMW, Nat.mod_eq_of_lt HL.out]
    have hdv : M / 2 ^ s = 0 := by rw [HS.out]; exact Nat.div_eq_of_lt hMW
    have HD := Lib.hid hdv
    have HR2 := Lib.hid hRB2
    clear hlt hMW hdv hRB2 hkq hqn
    go_wp2_with fail
    go_ret2
    exact ⟨_, congrArg (fun b => Ending.returned (.tuple #[.slice none 0 0, .bool b])) HR2.out.symm, Or.inl ⟨rfl, HD.out⟩, hbel⟩
   ·obtain rfl : k = q := by omega
    have hkn : (k : Int) < (n : Int) := by omega
    have hk0 : (0 : Int) ≤ (k : Int) := by omega
    have hlt' : decide ((k : Int) < (k : Nat)) = false := by simp
    have hnge : decide ((n : Int) ≤ (k : Int)) = false := by simp; omega
    obtain ⟨g, rfl, hcell⟩ := hrow.at hbel k (by omega)
    have hdl := dg_le M k
    have hpr : 2 ^ r ≤ 2 ^ 31 := Nat.pow_le_pow_right (by decide) hr
    have hpr0 := Nat.two_pow_pos r
    have hsh1 : IntKind.u32.wrap (2 ^ r : Int) = ((2 ^ r : Nat) : Int) := by
     rw [show (2 ^ r : Int) = ((2 ^ r : Nat) : Int) by rw [Int.natCast_pow]; rfl, IntKind.wrap_u32]; omega
    have hand : bits .and .u32 ((dg M k : Nat) : Int) ((2 ^ r : Nat) - 1 : Int) = ((dg M k % 2 ^ r : Nat) : Int) := by
     have h1 := u32_and_nat (dg M k) (2 ^ r - 1) (by omega) (by omega)
     rw [Nat.and_two_pow_sub_one_eq_mod] at h1
     rw [← h1]
     congr 1
     omega
    have hrest := rest_step M k r hr
    rw [← HRB.out] at hrest
    have HRE := Lib.hid hrest
    clear hrest hlt hkq hqn hpr0
    go_upto_region 8 with fail
    go_cut [6] from 37 to 50 (fun b wx => b = .bool RB ∧ Below w.heap.size w wx)
    case first =>
     obtain ⟨d, hd⟩ : ∃ d, d = dg M k := ⟨_, rfl⟩
     rw [← hd] at hcell hdl hand
     obtain ⟨pr, hpr2⟩ : ∃ pr : Nat, pr = 2 ^ r := ⟨_, rfl⟩
     rw [← hpr2] at hsh1 hand hpr
     obtain ⟨t, ht⟩ : ∃ t : Nat, t = d % pr := ⟨_, rfl⟩
     rw [← ht] at hand
     have hp1 : IntKind.u32.wrap ((pr : Int) - 1) = (pr : Int) - 1 := by
      rw [IntKind.wrap_u32]
      have : 0 < pr := by rw [hpr2]; exact Nat.two_pow_pos r
      omega
     have htt : (((t : Nat) : Int) != 0) = (dg M k % 2 ^ r != 0) := by rw [ht, hd, hpr2, Bool.eq_iff_iff, bne_iff_ne, bne_iff_ne]; omega
     have HTT := Lib.hid htt
     clear hd hpr2 ht htt
     cases hb : (M % W32 ^ k != 0) with
     | true =>
      have hR : RB = true := by rw [HRE.out, hb]; rfl
      have HR := Lib.hid hR
      clear hR hb
      go_wp2_with fail
      go_quiet (fail)
      go_wp2_with fail
      go_meet
      case rel => exact ⟨by rw [HR.out], below_drewN' hbel _⟩
     | false =>
      have hR : RB = (((t : Nat) : Int) != 0) := by rw [HRE.out, hb, HTT.out]; rfl
      have HR := Lib.hid hR
      clear hR hb
      go_wp2_with fail
      go_quiet (fail)
      go_wp2_with fail
      go_meet
      case rel => exact ⟨by rw [HR.out], below_drewN' hbel _⟩
    case rest =>
     obtain ⟨hbv, hb2⟩ := hcut
     subst hbv
     clear hbel hcell hdl hand hsh1
     have hmk := run_make_32 ((n : Int) - k) ((n : Int) - k) (by omega) (Int.le_refl _) (by omega)
     obtain ⟨N, hN⟩ : ∃ N, N = n - k := ⟨_, rfl⟩
     rw [show ((n : Int) - k).toNat = N by omega] at hmk
     have HN := Lib.hid hN
     clear hN
     go_wp2_with fail
     obtain ⟨gh, hgh⟩ : ∃ gh, gh = wc.heap.size := ⟨_, rfl⟩
     have hm0 : V32 (wc.alloc (.cells (zero32 N) 136)) gh N 0 0 (dg (M / 2 ^ s)) := by
      rw [hgh]
      exact (V32.made wc N).weaken fun j a b => absurd b (Nat.not_lt_zero _)
     have hg0 : wc.grownBy (wc.alloc (.cells (zero32 N) 136)) (Option.some gh) := World.grownBy_alloc wc _ _
     rw [← hgh]
     have HG := Lib.hid hgh
     clear hmk hgh
     go_loopw [9] (fun i wr => ∃ j : Nat, j ≤ N ∧ i = .int .i64 (j : Nat) ∧ V32 wr gh N 0 j (dg (M / 2 ^ s)) ∧ wc.grownBy wr (Option.some gh)) (fun i _ => N - (intOf i).toNat)
     case atStart => exact ⟨0, Nat.zero_le _, rfl, hm0, hg0⟩
     case round =>
      obtain ⟨j, hj, rfl, hz, hg⟩ := hrel
      clear hm0 hg0
      have hb9 := hb2.trans (below_of_grown' hg hb2.size (by rw [HG.out]; exact hb2.size))
      have hNn := HN.out
      by_cases hjN : j < N
      ·have hjN' : (j : Int) < (N : Int) := by omega
       have hj0 : (0 : Int) ≤ (j : Int) := by omega
       obtain ⟨g1, hg1, hc1⟩ := hrow.at hb9 (j + k) (by omega)
       injection hg1 with hg1
       injection hg1 with hg1 _ _
       subst hg1
       have hlimb := right_limb M k r j hr
       rw [← HS.out] at hlimb
       obtain ⟨o, hco⟩ := hz.some j (by omega)
       have hfo := hz.free j
       obtain ⟨D, hD⟩ : ∃ D, D = dg (M / 2 ^ s) j := ⟨_, rfl⟩
       have hst : V32 (wr.setCell ⟨gh, j, none⟩ (.int .u32 (D : Nat))) gh N 0 (j + 1) (dg (M / 2 ^ s)) :=
        hz.set j _ (by omega) hD (fun i a b hne => ⟨a, by omega, rfl⟩)
       have hgs := grown_set hg j (.int .u32 (D : Nat))
       rw [← hD] at hlimb
       have hx1 := dg_lt M (j + k)
       have hjk : (j : Int) + (k : Int) < (n : Int) := by omega
       have hjk0 : (0 : Int) ≤ (j : Int) + (k : Int) := by omega
       have hjk1 : (0 : Int) ≤ (j : Int) + (k : Int) + 1 := by omega
       by_cases hup : j + k + 1 < n
       ·have hup' : (j : Int) + (k : Int) + 1 < (n : Int) := by omega
        obtain ⟨g2, hg2, hc2⟩ := hrow.at hb9 (j + k + 1) hup
        injection hg2 with hg2
        injection hg2 with hg2 _ _
        subst hg2
        have hy1 := dg_lt M (j + k + 1)
        have hor := shl_word (dg M (j + k)) (dg M (j + k + 1)) hx1 hy1
        generalize dg M (j + k) = x at *
        generalize dg M (j + k + 1) = y at *
        obtain ⟨y2, hy2⟩ : ∃ y2, y2 = y * 4294967296 := ⟨_, rfl⟩
        obtain ⟨xy, hxy⟩ : ∃ xy, xy = x + y * 4294967296 := ⟨_, rfl⟩
        rw [← hxy, ← hy2] at hor
        have hsh : IntKind.u64.wrap ((y : Int) * 4294967296) = (y2 : Int) := by rw [IntKind.wrap_u64]; unfold W32 at hy1; omega
        have hdv : ((xy : Nat) : Int) / 2 ^ r = ((xy / 2 ^ r : Nat) : Int) := by rw [Int.natCast_ediv, Int.natCast_pow]; rfl
        obtain ⟨dv, hdv2⟩ : ∃ dv, dv = xy / 2 ^ r := ⟨_, rfl⟩
        rw [← hdv2] at hdv
        have hwd : IntKind.u32.wrap ((dv : Nat) : Int) = ((D : Nat) : Int) := by
         rw [IntKind.wrap_u32, hlimb, show x + y * W32 = xy from hxy.symm, ← hdv2]; rfl
        have hxl : (x : Int) ≤ 4294967295 := by unfold W32 at hx1; omega
        have hyl : (y : Int) ≤ 4294967295 := by unfold W32 at hy1; omega
        have hxyl : (xy : Int) ≤ 18446744073709551615 := by unfold W32 at hx1 hy1; omega
        have hr0 : (0 : Int) ≤ (r : Int) := by omega
        clear hy2 hxy hdv2 hlimb hD hz hg hx1 hy1 hNn
        go_wp2_with fail
        go_roundw
        case rel => exact ⟨j + 1, by omega, by go_num, hst, hgs⟩
        case measure => simp [intOf]; omega
       ·have hup' : decide ((j : Int) + (k : Int) + 1 < (n : Int)) = false := by simp; omega
        have hy0 : dg M (j + k + 1) = 0 := dg_beyond HL.out _ (by omega)
        rw [hy0, Nat.zero_mul, Nat.add_zero] at hlimb
        generalize dg M (j + k) = x at *
        have hdv : ((x : Nat) : Int) / 2 ^ r = ((x / 2 ^ r : Nat) : Int) := by rw [Int.natCast_ediv, Int.natCast_pow]; rfl
        obtain ⟨dv, hdv2⟩ : ∃ dv, dv = x / 2 ^ r := ⟨_, rfl⟩
        rw [← hdv2] at hdv
        have hwd : IntKind.u32.wrap ((dv : Nat) : Int) = ((D : Nat) : Int) := by
         rw [IntKind.wrap_u32, hlimb, ← hdv2]; rfl
        have hxl : (x : Int) ≤ 4294967295 := by unfold W32 at hx1; omega
        have hr0 : (0 : Int) ≤ (r : Int) := by omega
        clear hdv2 hlimb hD hz hg hx1 hNn hy0
        go_wp2_with fail
        go_roundw
        case rel => exact ⟨j + 1, by omega, by go_num, hst, hgs⟩
        case measure => simp [intOf]; omega
      ·obtain rfl : j = N := by omega
       have hjN' : decide ((j : Int) < (j : Nat)) = false := by simp
       have htr := trim_row wr gh j j (M / 2 ^ s) hz (by
        rw [Nat.div_lt_iff_lt_mul (Nat.two_pow_pos s)]
        refine Nat.lt_of_lt_of_le HL.out ?_
        rw [W32_two, W32_two, ← Nat.pow_add]
        exact Nat.pow_le_pow_right (by decide) (by have := HS.out; omega)) (Nat.le_refl _) (by omega)
       have hN9 : j ≤ 1000000 := by omega
       clear hg hNn hjN
       go_wp2_with fail
       refine htr.mono ?_
       rintro e w1 ⟨⟨i, hi, hnl, rfl⟩, rfl⟩
       go_wp2_with fail
       go_ret2
       exact ⟨_, rfl, Or.inr ⟨gh, i, j, rfl, hi, hN9, hnl, hz.weaken fun i a b => ⟨a, by omega, rfl⟩⟩, hb9⟩
end Go.Proofs.YtpfbgenefjhcjaaGreatDoor
