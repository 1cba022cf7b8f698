/- (nat).cmp. -/
import Derived.Test.YtopilodakphhgaaDoorNatSub
namespace Go.Proofs.YtopilodakphhgaaDoor
set_option linter.unusedVariables false
set_option linter.unusedSimpArgs false
open Go Go.RowKit
set_option maxRecDepth 100000
theorem div_step (X i : Nat) : X / B64 ^ i = X / B64 ^ (i + 1) * B64 + wd X i := by
  unfold wd
  rw [Nat.pow_succ, ← Nat.div_div_eq_div_mul, Nat.mul_comm]
  exact (Nat.div_add_mod _ _).symm
theorem word_lt (X Y i : Nat) (h : X / B64 ^ (i + 1) = Y / B64 ^ (i + 1)) (hw : wd X i < wd Y i) : X < Y := by
  have h1 := div_step X i
  have h2 := div_step Y i
  rw [h] at h1
  refine Nat.lt_of_not_le fun hle => ?_
  have := Nat.div_le_div_right (c := B64 ^ i) hle
  omega
theorem word_eq (X Y i : Nat) (h : X / B64 ^ (i + 1) = Y / B64 ^ (i + 1)) (hw : wd X i = wd Y i) : X / B64 ^ i = Y / B64 ^ i := by
  rw [div_step X i, div_step Y i, h, hw]
theorem len_lt (X Y m n : Nat) (hX : X < B64 ^ m) (hn : 0 < n → B64 ^ (n - 1) ≤ Y) (h : m < n) : X < Y :=
  Nat.lt_of_lt_of_le (Nat.lt_of_lt_of_le hX (Nat.pow_le_pow_right B64_pos (by omega))) (hn (by omega))
/-- How X stands to Y. -/
def cmpN (X Y : Nat) : Int := ((X : Int) - Y).sign
theorem cmpN_lt {X Y : Nat} (h : X < Y) : cmpN X Y = -1 := Int.sign_eq_neg_one_of_neg (by omega)
theorem cmpN_gt {X Y : Nat} (h : Y < X) : cmpN X Y = 1 := Int.sign_eq_one_of_pos (by omega)
theorem cmpN_eq {X Y : Nat} (h : X = Y) : cmpN X Y = 0 := by unfold cmpN; rw [h, Int.sub_self]; rfl
theorem natIs_row {w : World} {A : Option Addr} {n cap M : Nat} (h : NatIs w A n cap M) (h0 : 0 < n) : ∃ g, A = Option.some ⟨g, 0, none⟩ ∧ n ≤ cap ∧ cap ≤ 1000000 ∧ Vec w g cap 0 n (wd M) := by
  obtain ⟨h1, _⟩ | ⟨g, rfl, a, b, c⟩ := h.2
  · omega
  · exact ⟨g, rfl, a, by omega, c⟩
set_option maxHeartbeats 2000000 in
theorem natCmp_any (w : World) (A B : Option Addr) (m cx n cy X Y : Nat) (h : NatIs w A m cx X) (h' : NatIs w B n cy Y) :
    Calls Tryd.prog 70 #[.slice A m cx, .slice B n cy] w fun e w' => e = .returned (.int .i64 (cmpN X Y)) ∧ ∃ k, w' = w.drewN k := by
  have hX := h.1
  have hY := h'.1
  by_cases hlt : m < n
  · have hc := cmpN_lt (len_lt X Y m n hX.1 hY.2 hlt)
    rw [hc]
    have h1 : ((m : Int) != n) = true := by rw [bne_iff_ne]; omega
    have h2 : (m : Int) < n := by omega
    clear hX hY h h'
    go_enter Tryd.func70, Tryd.ntmps70
    go_wp2_with fail
    go_ret
    exact ⟨rfl, 0, rfl⟩
  · by_cases hgt : n < m
    · have hc := cmpN_gt (len_lt Y X n m hY.1 hX.2 hgt)
      rw [hc]
      have h1 : ((m : Int) != n) = true := by rw [bne_iff_ne]; omega
      have h2 : decide ((m : Int) < n) = false := by simp; omega
      have h3 : (n : Int) < m := by omega
      clear hX hY h h'
      go_enter Tryd.func70, Tryd.ntmps70
      go_wp2_with fail
      go_ret
      exact ⟨rfl, 0, rfl⟩
    · obtain rfl : m = n := by omega
      clear hlt hgt
      by_cases h0 : m = 0
      · subst h0
        have hz1 := hX.1
        have hz2 := hY.1
        rw [Nat.pow_zero] at hz1 hz2
        have hc := cmpN_eq (show X = Y by omega)
        rw [hc]
        clear hX hY h h' hz1 hz2
        go_enter Tryd.func70, Tryd.ntmps70
        go_wp2_with fail
        go_ret
        exact ⟨rfl, 0, rfl⟩
      · obtain ⟨g, rfl, ha, hb, hv⟩ := natIs_row h (by omega)
        obtain ⟨g', rfl, ha', hb', hv'⟩ := natIs_row h' (by omega)
        have hm0 : ((m : Int) == 0) = false := by rw [beq_eq_false_iff_ne]; omega
        have HX := Lib.hid hX.1
        have HY := Lib.hid hY.1
        clear hX hY h h'
        have h1 : ((m : Int) != m) = false := by simp
        go_enter Tryd.func70, Tryd.ntmps70
        go_wp2_with fail
        go_loopw [7] (fun i wr => ∃ k : Nat, k < m ∧ i = .int .i64 (k : Nat) ∧ X / B64 ^ (k + 1) = Y / B64 ^ (k + 1) ∧ ∃ q, wr = w.drewN q) (fun i _ => (intOf i).toNat)
        case atStart => exact ⟨m - 1, by omega, by simp; omega, by rw [show m - 1 + 1 = m by omega, Nat.div_eq_of_lt HX.out, Nat.div_eq_of_lt HY.out], 0, rfl⟩
        case round =>
          obtain ⟨k, hk, rfl, hq, q, rfl⟩ := hrel
          have HQ := Lib.hid hq
          clear hq
          have c1 : w.cell? ⟨g, k, none⟩ = some (.int .u64 (wd X k : Nat)) := hv.cell k (Nat.zero_le _) hk
          have c2 : w.cell? ⟨g', k, none⟩ = some (.int .u64 (wd Y k : Nat)) := hv'.cell k (Nat.zero_le _) hk
          have hkm : (k : Int) < m := by omega
          by_cases hw : wd X k = wd Y k
          · have HW := Lib.hid hw
            rw [← hw] at c2
            clear hw
            have e1 : ((wd X k : Int) == wd X k) = true := by simp
            by_cases hk0 : k = 0
            · subst hk0
              have hc := cmpN_eq (show X = Y by have := word_eq X Y 0 HQ.out HW.out; rwa [Nat.pow_zero, Nat.div_one, Nat.div_one] at this)
              have HC := Lib.hid hc
              clear hc
              go_wp2_with fail
              go_quiet (fail)
              go_wp2_with fail
              go_quiet (fail)
              go_wp2_with fail
              go_quiet (fail)
              go_wp2_with fail
              go_ret
              exact ⟨by rw [HC.out]; rfl, by simp only [World.drewN_drewN]; exact ⟨_, rfl⟩⟩
            · obtain ⟨j, rfl⟩ : ∃ j, k = j + 1 := ⟨k - 1, by omega⟩
              have hk1 : (0 : Int) < ((j + 1 : Nat) : Int) := by omega
              go_wp2_with fail
              go_quiet (fail)
              go_wp2_with fail
              go_roundw
              case rel => exact ⟨j, by omega, by go_num, word_eq X Y (j + 1) HQ.out HW.out, _, rfl⟩
              case measure => simp [intOf]
          · have e1 : ((wd X k : Int) == wd Y k) = false := by rw [beq_eq_false_iff_ne]; omega
            have rest : ∀ kp : Bool, decide (0 < (k : Int)) = kp → True := fun _ _ => trivial
            by_cases hl : wd X k < wd Y k
            · have HC := Lib.hid (cmpN_lt (word_lt X Y k HQ.out hl))
              have e2 : (wd X k : Int) < wd Y k := by omega
              by_cases hk0 : k = 0
              · subst hk0
                go_wp2_with fail
                go_quiet (fail)
                go_wp2_with fail
                go_quiet (fail)
                go_wp2_with fail
                go_ret
                exact ⟨by rw [HC.out]; rfl, by simp only [World.drewN_drewN]; exact ⟨_, rfl⟩⟩
              · have hk1 : 0 < k := by omega
                go_wp2_with fail
                go_quiet (fail)
                go_wp2_with fail
                go_quiet (fail)
                go_wp2_with fail
                go_ret
                exact ⟨by rw [HC.out]; rfl, by simp only [World.drewN_drewN]; exact ⟨_, rfl⟩⟩
            · have HC := Lib.hid (cmpN_gt (word_lt Y X k HQ.out.symm (by omega)))
              have e2 : decide ((wd X k : Int) < wd Y k) = false := by simp; omega
              have e3 : (wd Y k : Int) < wd X k := by omega
              by_cases hk0 : k = 0
              · subst hk0
                go_wp2_with fail
                go_quiet (fail)
                go_wp2_with fail
                go_quiet (fail)
                go_wp2_with fail
                go_quiet (fail)
                go_wp2_with fail
                go_ret
                exact ⟨by rw [HC.out]; rfl, by simp only [World.drewN_drewN]; exact ⟨_, rfl⟩⟩
              · have hk1 : 0 < k := by omega
                go_wp2_with fail
                go_quiet (fail)
                go_wp2_with fail
                go_quiet (fail)
                go_wp2_with fail
                go_quiet (fail)
                go_wp2_with fail
                go_ret
                exact ⟨by rw [HC.out]; rfl, by simp only [World.drewN_drewN]; exact ⟨_, rfl⟩⟩
end Go.Proofs.YtopilodakphhgaaDoor
