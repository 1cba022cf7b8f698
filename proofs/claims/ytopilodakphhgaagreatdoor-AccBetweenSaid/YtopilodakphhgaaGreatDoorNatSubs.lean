/- (nat).sub of rows of one length; bits.Sub, subVV. (nat).cmp. -/
import Derived.Test.YtopilodakphhgaaGreatDoorNatShift
import Derived.Deep.QuietTactic
import Derived.BigQuiet
import Derived.StillTailTactics
namespace Go.Proofs.YtopilodakphhgaaGreatDoor
set_option linter.unusedVariables false
set_option linter.unusedSimpArgs false
open Go Go.RowKit
set_option maxRecDepth 100000
theorem bitsSub_any (x y c d c' : Nat) (h1 : c ≤ 1) (hd : (x + B64 - y - c) % B64 = d) (hc : (if x < y + c then 1 else 0) = c') (w : World) :
    Calls Tryz.prog 98 #[.int .u64 (x : Nat), .int .u64 (y : Nat), .int .u64 (c : Nat)] w fun e w' => e = .returned (.tuple #[.int .u64 (d : Nat), .int .u64 (c' : Nat)]) ∧ w' = w := by
  have hs := run_sub_nat x y c d c' h1 hd hc
  have H := Lib.hid hd
  have HC := Lib.hid hc
  clear hd hc
  go_enter Tryz.func98, Tryz.ntmps98
  go_wp2_with fail
  go_ret2
  exact ⟨rfl, rfl⟩
theorem run_subVV (args : Array Value) (w : World) : (callFunc 95 args).run Tryz.prog w = .ok (.enter 75 args) w := by kernel_rfl
/-- The words of X - Y, if Y is at most X. -/
theorem wd_sub (X Y n j : Nat) (hY : Y ≤ X) (hj : j < n) : wd (X + B64 ^ n - Y) j = wd (X - Y) j := by
  obtain ⟨d, rfl⟩ : ∃ d, n = j + 1 + d := ⟨n - (j + 1), by omega⟩
  rw [show X + B64 ^ (j + 1 + d) - Y = X - Y + B64 ^ (j + 1 + d) by omega]
  unfold wd
  rw [show B64 ^ (j + 1 + d) = B64 ^ j * (B64 * B64 ^ d) by rw [Nat.pow_add, Nat.pow_succ]; ac_rfl, Nat.add_mul_div_left _ _ (Bpow_pos j), Nat.add_mul_mod_self_left]
theorem borrow_end (X Y n : Nat) (hX : X < B64 ^ n) (hY : Y ≤ X) : borrow X Y n = 0 := by
  unfold borrow
  rw [Nat.mod_eq_of_lt hX, Nat.mod_eq_of_lt (by omega), if_neg (by omega)]
set_option maxHeartbeats 2000000 in
theorem subVV_any (w : World) (g cap n h caph k capk X Y cz cx cy lo hi : Nat) (F : Nat → Nat) (hz : Vec w g cap lo hi F) (hx : Vec w h caph 0 n (wd X)) (hy : Vec w k capk 0 n (wd Y)) (hX : X < B64 ^ n) (hY : Y ≤ X) (hne : h ≠ g) (hne' : k ≠ g) (hn : n ≤ cap) (hcap : cap ≤ 1000000) :
    Calls Tryz.prog 75 #[.slice (Option.some ⟨g, 0, none⟩) n cz, .slice (Option.some ⟨h, 0, none⟩) n cx, .slice (Option.some ⟨k, 0, none⟩) n cy] w fun e w' => e = .returned (.int .u64 0) ∧ Vec w' g cap 0 n (wd (X - Y)) ∧ w.grownBy w' (Option.some g) := by
  have HX := Lib.hid hX
  have HY := Lib.hid hY
  clear hX hY
  go_enter Tryz.func75, Tryz.ntmps75
  go_wp2_with fail
  go_loopw [6, 25] (fun c kk wr => ∃ i : Nat, i ≤ n ∧ c = .int .u64 (borrow X Y i : Nat) ∧ kk = .int .i64 (i : Nat) ∧ Vec wr g cap 0 i (wd (X - Y)) ∧ w.grownBy wr (Option.some g)) (fun _ kk _ => n - (intOf kk).toNat)
  case atStart => exact ⟨0, by omega, by rw [borrow_zero]; rfl, rfl, (by obtain ⟨cur, a1, a2, _⟩ := hz; exact ⟨cur, a1, a2, fun j _ hj => absurd hj (Nat.not_lt_zero j)⟩), grown_refl _ _⟩
  case round =>
    obtain ⟨i, hi, rfl, rfl, hv, hg⟩ := hrel
    by_cases hlt : i < n
    · have hx1 := (hx.grown hg (fun e => hne (by injection e))).cell i (Nat.zero_le _) hlt
      have hy1 := (hy.grown hg (fun e => hne' (by injection e))).cell i (Nat.zero_le _) hlt
      obtain ⟨v, hc⟩ := hv.some i (by omega)
      have hf := hv.free i
      have hcl := borrow_le X Y i
      have hw := sub_word X Y i n hlt HX.out (Nat.lt_of_le_of_lt HY.out HX.out)
      rw [wd_sub X Y n i HY.out hlt] at hw
      have hstep : Vec (wr.setCell ⟨g, i, none⟩ (.int .u64 (wd (X - Y) i : Nat))).drew g cap 0 (i + 1) (wd (X - Y)) :=
        hv.set i _ (by omega) rfl (fun j _ hj hne => ⟨Nat.zero_le _, by omega, rfl⟩)
      have HG := Lib.hid hg
      have hs := bitsSub_any (wd X i) (wd Y i) (borrow X Y i) _ _ hcl hw.1 hw.2
      have hlt' : (i : Int) < n := by omega
      clear hw hx hy hz hv hg
      go_wp2_with fail
      go_quiet ((go_at_call 98; exact Calls.quiet_of_same (hs _)))
      go_wp2_with fail
      go_roundw
      case rel => exact ⟨i + 1, by omega, rfl, by go_num, hstep, grown_set (grown_drewN HG.out _) i _⟩
      case measure => simp [intOf]; omega
    · obtain rfl : i = n := by omega
      have hlt' : decide ((i : Int) < (i : Nat)) = false := by simp
      have hb := borrow_end X Y i HX.out HY.out
      rw [hb]
      go_wp2_with fail
      go_ret
      exact ⟨rfl, hv, hg⟩
set_option maxHeartbeats 2000000 in
theorem sub_nil (w : World) (A B : Option Addr) (m cx n cy X Y : Nat) (h : NatIs w A m cx X) (h' : NatIs w B n cy Y) (hY : Y ≤ X) (h0 : 0 < m) (hn : n = m ∨ n = 0) (hm : m ≤ 50000) :
    Calls Tryz.prog 81 #[.slice none 0 0, .slice A m cx, .slice B n cy] w fun e w' => (∃ C k cap, e = .returned (.slice C k cap) ∧ NatIs w' C k cap (X - Y)) ∧ Below w.heap.size w w' := by
  have hm0 : (((m : Nat) : Int) == 0) = false := by rw [beq_eq_false_iff_ne]; omega
  rcases hn with rfl | rfl
  · have hlt := h.1.1
    have hrow := h.2
    have hrow' := h'.2
    clear h h'
    obtain ⟨h1, _⟩ | ⟨g, rfl, hc1, hc2, hv⟩ := hrow
    · omega
    obtain ⟨h1, _⟩ | ⟨g', rfl, hd1, hd2, hv'⟩ := hrow'
    · omega
    have hgl := hv.lt
    have hgl' := hv'.lt
    have HL := Lib.hid hlt
    have HY := Lib.hid hY
    clear hlt hY
    have hrun := run_subVV
    go_enter Tryz.func81, Tryz.ntmps81
    go_wp2_with fail
    refine (make_nil n h0 (by omega) _).mono ?_
    rintro e w1 ⟨cap, hc1', hc2', rfl, rfl⟩
    have hvx := hv.below ((Below.refl w.heap.size w).alloc (Nat.le_refl _) (Obj.cells (zeroWords cap) 114))
    have hvy := hv'.below ((Below.refl w.heap.size w).alloc (Nat.le_refl _) (Obj.cells (zeroWords cap) 114))
    have hz1 := Vec.made w cap
    have hb1 : Below w.heap.size w (w.alloc (Obj.cells (zeroWords cap) 114)) := (Below.refl _ _).alloc (Nat.le_refl _) _
    generalize hW : w.alloc (Obj.cells (zeroWords cap) 114) = W at *
    clear hW
    go_wp2_with fail
    go_still_tail 9, (by kernel_rfl)
    change wpList _ _ _ _ _ W.drew
    have HT := Lib.hid (subVV_any W.drew w.heap.size cap n g cx g' cy X Y cap cx cy 0 cap (fun _ => 0) hz1 hvx hvy HL.out HY.out (by omega) (by omega) hc1' (by omega))
    have hb2 : Below w.heap.size w W.drew := ⟨hb1.os, hb1.tape, hb1.output, hb1.size, hb1.block⟩
    generalize W.drew = W2 at *
    clear hvx hvy hz1 hb1
    go_wp2_with fail
    refine HT.out.mono ?_
    rintro e w3 ⟨rfl, hv3, hg3⟩
    have hb3 := below_of_grown (grown_trans (grown_of_below hb2) hg3) (Nat.le_refl _)
    clear hg3 hb2
    go_wp2_with fail
    refine (norm_row _ w.heap.size n cap (X - Y) hv3 (Nat.lt_of_le_of_lt (Nat.sub_le _ _) HL.out) hc1' (by omega)).mono ?_
    rintro e w4 ⟨⟨k, hk, hnorm, rfl⟩, rfl⟩
    go_wp2_with fail
    go_ret
    exact ⟨⟨_, k, cap, rfl, hnorm, Or.inr ⟨w.heap.size, rfl, by omega, by omega, hv3.weaken (Nat.le_refl _) hk (fun _ _ _ => rfl)⟩⟩, hb3⟩
  · have hz : Y = 0 := by have := h'.1.1; rw [Nat.pow_zero] at this; omega
    subst hz
    go_enter Tryz.func81, Tryz.ntmps81
    go_wp2_with fail
    refine (set_nil _ A m cx X h h0 hm).mono ?_
    rintro e w3 ⟨⟨C, k, cap, rfl, hn3⟩, hb3⟩
    go_wp2_with fail
    go_ret
    exact ⟨⟨C, k, cap, rfl, hn3⟩, hb3⟩
set_option linter.unusedVariables false
set_option linter.unusedSimpArgs false
open Go Go.RowKit
set_option maxRecDepth 100000
theorem div_step (X i : Nat) : X / B64 ^ i = X / B64 ^ (i + 1) * B64 + wd X i := by
  unfold wd
  rw [Nat.pow_succ, ← Nat.div_div_eq_div_mul, Nat.mul_comm]
  exact (Nat.div_add_mod _ _).symm
theorem word_lt (X Y i : Nat) (h : X / B64 ^ (i + 1) = Y / B64 ^ (i + 1)) (hw : wd X i < wd Y i) : X < Y := by
  have h1 := div_step X i
  have h2 := div_step Y i
  rw [h] at h1
  refine Nat.lt_of_not_le fun hle => ?_
  have := Nat.div_le_div_right (c := B64 ^ i) hle
  omega
theorem word_eq (X Y i : Nat) (h : X / B64 ^ (i + 1) = Y / B64 ^ (i + 1)) (hw : wd X i = wd Y i) : X / B64 ^ i = Y / B64 ^ i := by
  rw [div_step X i, div_step Y i, h, hw]
theorem len_lt (X Y m n : Nat) (hX : X < B64 ^ m) (hn : 0 < n → B64 ^ (n - 1) ≤ Y) (h : m < n) : X < Y :=
  Nat.lt_of_lt_of_le (Nat.lt_of_lt_of_le hX (Nat.pow_le_pow_right B64_pos (by omega))) (hn (by omega))
/-- How X stands to Y. -/
def cmpN (X Y : Nat) : Int := ((X : Int) - Y).sign
theorem cmpN_lt {X Y : Nat} (h : X < Y) : cmpN X Y = -1 := Int.sign_eq_neg_one_of_neg (by omega)
theorem cmpN_gt {X Y : Nat} (h : Y < X) : cmpN X Y = 1 := Int.sign_eq_one_of_pos (by omega)
theorem cmpN_eq {X Y : Nat} (h : X = Y) : cmpN X Y = 0 := by unfold cmpN; rw [h, Int.sub_self]; rfl
theorem natIs_row {w : World} {A : Option Addr} {n cap M : Nat} (h : NatIs w A n cap M) (h0 : 0 < n) : ∃ g, A = Option.some ⟨g, 0, none⟩ ∧ n ≤ cap ∧ cap ≤ 1000000 ∧ Vec w g cap 0 n (wd M) := by
  obtain ⟨h1, _⟩ | ⟨g, rfl, a, b, c⟩ := h.2
  · omega
  · exact ⟨g, rfl, a, by omega, c⟩
set_option maxHeartbeats 2000000 in
theorem natCmp_any (w : World) (A B : Option Addr) (m cx n cy X Y : Nat) (h : NatIs w A m cx X) (h' : NatIs w B n cy Y) :
    Calls Tryz.prog 84 #[.slice A m cx, .slice B n cy] w fun e w' => e = .returned (.int .i64 (cmpN X Y)) ∧ ∃ k, w' = w.drewN k := by
  have hX := h.1
  have hY := h'.1
  by_cases hlt : m < n
  · have hc := cmpN_lt (len_lt X Y m n hX.1 hY.2 hlt)
    rw [hc]
    have h1 : ((m : Int) != n) = true := by rw [bne_iff_ne]; omega
    have h2 : (m : Int) < n := by omega
    clear hX hY h h'
    go_enter Tryz.func84, Tryz.ntmps84
    go_wp2_with fail
    go_ret
    exact ⟨rfl, 0, rfl⟩
  · by_cases hgt : n < m
    · have hc := cmpN_gt (len_lt Y X n m hY.1 hX.2 hgt)
      rw [hc]
      have h1 : ((m : Int) != n) = true := by rw [bne_iff_ne]; omega
      have h2 : decide ((m : Int) < n) = false := by simp; omega
      have h3 : (n : Int) < m := by omega
      clear hX hY h h'
      go_enter Tryz.func84, Tryz.ntmps84
      go_wp2_with fail
      go_ret
      exact ⟨rfl, 0, rfl⟩
    · obtain rfl : m = n := by omega
      clear hlt hgt
      by_cases h0 : m = 0
      · subst h0
        have hz1 := hX.1
        have hz2 := hY.1
        rw [Nat.pow_zero] at hz1 hz2
        have hc := cmpN_eq (show X = Y by omega)
        rw [hc]
        clear hX hY h h' hz1 hz2
        go_enter Tryz.func84, Tryz.ntmps84
        go_wp2_with fail
        go_ret
        exact ⟨rfl, 0, rfl⟩
      · obtain ⟨g, rfl, ha, hb, hv⟩ := natIs_row h (by omega)
        obtain ⟨g', rfl, ha', hb', hv'⟩ := natIs_row h' (by omega)
        have hm0 : ((m : Int) == 0) = false := by rw [beq_eq_false_iff_ne]; omega
        have HX := Lib.hid hX.1
        have HY := Lib.hid hY.1
        clear hX hY h h'
        have h1 : ((m : Int) != m) = false := by simp
        go_enter Tryz.func84, Tryz.ntmps84
        go_wp2_with fail
        go_loopw [7] (fun i wr => ∃ k : Nat, k < m ∧ i = .int .i64 (k : Nat) ∧ X / B64 ^ (k + 1) = Y / B64 ^ (k + 1) ∧ ∃ q, wr = w.drewN q) (fun i _ => (intOf i).toNat)
        case atStart => exact ⟨m - 1, by omega, by simp; omega, by rw [show m - 1 + 1 = m by omega, Nat.div_eq_of_lt HX.out, Nat.div_eq_of_lt HY.out], 0, rfl⟩
        case round =>
          obtain ⟨k, hk, rfl, hq, q, rfl⟩ := hrel
          have HQ := Lib.hid hq
          clear hq
          have c1 : w.cell? ⟨g, k, none⟩ = some (.int .u64 (wd X k : Nat)) := hv.cell k (Nat.zero_le _) hk
          have c2 : w.cell? ⟨g', k, none⟩ = some (.int .u64 (wd Y k : Nat)) := hv'.cell k (Nat.zero_le _) hk
          have hkm : (k : Int) < m := by omega
          by_cases hw : wd X k = wd Y k
          · have HW := Lib.hid hw
            rw [← hw] at c2
            clear hw
            have e1 : ((wd X k : Int) == wd X k) = true := by simp
            by_cases hk0 : k = 0
            · subst hk0
              have hc := cmpN_eq (show X = Y by have := word_eq X Y 0 HQ.out HW.out; rwa [Nat.pow_zero, Nat.div_one, Nat.div_one] at this)
              have HC := Lib.hid hc
              clear hc
              go_wp2_with fail
              go_quiet (fail)
              go_wp2_with fail
              go_quiet (fail)
              go_wp2_with fail
              go_quiet (fail)
              go_wp2_with fail
              go_ret
              exact ⟨by rw [HC.out]; rfl, by simp only [World.drewN_drewN]; exact ⟨_, rfl⟩⟩
            · obtain ⟨j, rfl⟩ : ∃ j, k = j + 1 := ⟨k - 1, by omega⟩
              have hk1 : (0 : Int) < ((j + 1 : Nat) : Int) := by omega
              go_wp2_with fail
              go_quiet (fail)
              go_wp2_with fail
              go_roundw
              case rel => exact ⟨j, by omega, by go_num, word_eq X Y (j + 1) HQ.out HW.out, _, rfl⟩
              case measure => simp [intOf]
          · have e1 : ((wd X k : Int) == wd Y k) = false := by rw [beq_eq_false_iff_ne]; omega
            have rest : ∀ kp : Bool, decide (0 < (k : Int)) = kp → True := fun _ _ => trivial
            by_cases hl : wd X k < wd Y k
            · have HC := Lib.hid (cmpN_lt (word_lt X Y k HQ.out hl))
              have e2 : (wd X k : Int) < wd Y k := by omega
              by_cases hk0 : k = 0
              · subst hk0
                go_wp2_with fail
                go_quiet (fail)
                go_wp2_with fail
                go_quiet (fail)
                go_wp2_with fail
                go_ret
                exact ⟨by rw [HC.out]; rfl, by simp only [World.drewN_drewN]; exact ⟨_, rfl⟩⟩
              · have hk1 : 0 < k := by omega
                go_wp2_with fail
                go_quiet (fail)
                go_wp2_with fail
                go_quiet (fail)
                go_wp2_with fail
                go_ret
                exact ⟨by rw [HC.out]; rfl, by simp only [World.drewN_drewN]; exact ⟨_, rfl⟩⟩
            · have HC := Lib.hid (cmpN_gt (word_lt Y X k HQ.out.symm (by omega)))
              have e2 : decide ((wd X k : Int) < wd Y k) = false := by simp; omega
              have e3 : (wd Y k : Int) < wd X k := by omega
              by_cases hk0 : k = 0
              · subst hk0
                go_wp2_with fail
                go_quiet (fail)
                go_wp2_with fail
                go_quiet (fail)
                go_wp2_with fail
                go_quiet (fail)
                go_wp2_with fail
                go_ret
                exact ⟨by rw [HC.out]; rfl, by simp only [World.drewN_drewN]; exact ⟨_, rfl⟩⟩
              · have hk1 : 0 < k := by omega
                go_wp2_with fail
                go_quiet (fail)
                go_wp2_with fail
                go_quiet (fail)
                go_wp2_with fail
                go_quiet (fail)
                go_wp2_with fail
                go_ret
                exact ⟨by rw [HC.out]; rfl, by simp only [World.drewN_drewN]; exact ⟨_, rfl⟩⟩
end Go.Proofs.YtopilodakphhgaaGreatDoor
