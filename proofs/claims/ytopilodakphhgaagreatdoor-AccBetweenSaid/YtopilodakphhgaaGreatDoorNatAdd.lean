/- (nat).add of one word and 1; (*Int).Add, SetUint64. -/
import Derived.Test.YtopilodakphhgaaGreatDoorIntLow
import Derived.Test.YtopilodakphhgaaGreatDoorIntOps2
namespace Go.Proofs.YtopilodakphhgaaGreatDoor
set_option linter.unusedVariables false
set_option linter.unusedSimpArgs false
open Go Go.RowKit
set_option maxRecDepth 100000
theorem bitsAdd_any (x y c d c' : Nat) (h1 : c ≤ 1) (hd : (x + y + c) % B64 = d) (hc : (x + y + c) / B64 = c') (w : World) :
    Calls Tryz.prog 104 #[.int .u64 (x : Nat), .int .u64 (y : Nat), .int .u64 (c : Nat)] w fun e w' => e = .returned (.tuple #[.int .u64 (d : Nat), .int .u64 (c' : Nat)]) ∧ w' = w := by
  have hs := run_add_nat x y c d c' h1 hd hc
  have H := Lib.hid hd
  have HC := Lib.hid hc
  clear hd hc
  go_enter Tryz.func104, Tryz.ntmps104
  go_wp2_with fail
  go_ret2
  exact ⟨rfl, rfl⟩
theorem run_addVV (args : Array Value) (w : World) : (callFunc 102 args).run Tryz.prog w = .ok (.enter 74 args) w := by kernel_rfl
set_option maxHeartbeats 2000000 in
/-- One word and one word. -/
theorem addVV_one (w : World) (g h k a b cz cx cy : Nat) (v : Value) (hz : w.cell? ⟨g, 0, none⟩ = Option.some v) (hf : w.frozen? ⟨g, 0, none⟩ = false) (hx : w.cell? ⟨h, 0, none⟩ = Option.some (.int .u64 (a : Nat))) (hy : w.cell? ⟨k, 0, none⟩ = Option.some (.int .u64 (b : Nat))) (hab : a + b < B64) :
    Calls Tryz.prog 74 #[.slice (Option.some ⟨g, 0, none⟩) 1 cz, .slice (Option.some ⟨h, 0, none⟩) 1 cx, .slice (Option.some ⟨k, 0, none⟩) 1 cy] w fun e w' => e = .returned (.int .u64 0) ∧ ∃ j, w' = (w.drewN j).setCell ⟨g, 0, none⟩ (.int .u64 ((a + b : Nat) : Int)) := by
  have hs := bitsAdd_any a b 0 (a + b) 0 (by omega) (by rw [Nat.add_zero, Nat.mod_eq_of_lt hab]) (by rw [Nat.add_zero, Nat.div_eq_of_lt hab])
  have hla : (a : Int) ≤ 18446744073709551615 := by unfold B64 at hab; omega
  have hlb : (b : Int) ≤ 18446744073709551615 := by unfold B64 at hab; omega
  have HAB := Lib.hid hab
  clear hab
  generalize a + b = s at *
  go_enter Tryz.func74, Tryz.ntmps74
  go_wp2_with fail
  go_loopw [6, 25] (fun c kk wr => ∃ i : Nat, i ≤ 1 ∧ c = .int .u64 0 ∧ kk = .int .i64 (i : Nat) ∧ ((i = 0 ∧ wr = w) ∨ (i = 1 ∧ ∃ j, wr = (w.drewN j).setCell ⟨g, 0, none⟩ (.int .u64 (s : Nat))))) (fun _ kk _ => 1 - (intOf kk).toNat)
  case atStart => exact ⟨0, by omega, rfl, rfl, Or.inl ⟨rfl, rfl⟩⟩
  case round =>
    obtain ⟨i, hi, rfl, rfl, ⟨rfl, rfl⟩ | ⟨rfl, j, rfl⟩⟩ := hrel
    · go_wp2_with fail
      go_quiet ((go_at_call 104; exact Calls.quiet_of_same (hs _)))
      go_wp2_with fail
      go_roundw
      case rel => exact ⟨1, by omega, rfl, rfl, Or.inr ⟨rfl, _, rfl⟩⟩
      case measure => simp [intOf]
    · go_wp2_with fail
      go_ret
      exact ⟨rfl, j, rfl⟩
theorem make_grow (A : Option Addr) (n0 c0 n : Nat) (h0 : 0 < n) (h1 : n ≤ 100000) (hc : c0 < n) (w : World) :
    Calls Tryz.prog 94 #[.slice A n0 c0, .int .i64 (n : Nat)] w fun e w' => ∃ cap, n ≤ cap ∧ cap ≤ n + 4 ∧ e = .returned (.slice (Option.some ⟨w.heap.size, 0, none⟩) n cap) ∧ w.alloc (.cells (zeroWords cap) 114) = w' := by
  have hq : decide ((n : Int) ≤ (c0 : Int)) = false := by simp; omega
  by_cases hn : n = 1
  · subst hn
    obtain rfl : c0 = 0 := by omega
    have hm := run_make_nat 1 1 (by decide) (by decide) (by decide)
    go_enter Tryz.func94, Tryz.ntmps94
    go_wp2
    go_ret
    exact ⟨1, Nat.le_refl _, by omega, rfl, rfl⟩
  · have hn' : ((n : Int) == 1) = false := by rw [beq_eq_false_iff_ne]; omega
    have hm := run_make_nat (n : Int) ((n : Int) + 4) (by omega) (by omega) (by omega)
    rw [show ((n : Int) + 4).toNat = n + 4 by omega, show ((n : Int)).toNat = n by omega] at hm
    go_enter Tryz.func94, Tryz.ntmps94
    go_wp2
    go_ret
    exact ⟨n + 4, by omega, Nat.le_refl _, rfl, rfl⟩
/-- Room for n words: in z's row, or in a new one. -/
theorem make_any (w : World) (A : Option Addr) (n0 c0 Q n : Nat) (h : NatIs w A n0 c0 Q) (h0 : 0 < n) (h1 : n ≤ 100000) :
    Calls Tryz.prog 94 #[.slice A n0 c0, .int .i64 (n : Nat)] w fun e w' => (∃ G cp, e = .returned (.slice (Option.some ⟨G, 0, none⟩) n cp) ∧ n ≤ cp ∧ cp ≤ 1000000 ∧ Vec w' G cp 0 0 (fun _ => 0) ∧ (A = Option.some ⟨G, 0, none⟩ ∨ w.heap.size ≤ G)) ∧ Below w.heap.size w w' := by
  by_cases hc : c0 < n
  · refine (make_grow A n0 c0 n h0 h1 hc w).mono ?_
    rintro e w' ⟨cap, hc1, hc2, rfl, rfl⟩
    exact ⟨⟨w.heap.size, cap, rfl, hc1, by omega, (Vec.made w cap).weaken (Nat.le_refl _) (Nat.zero_le _) (fun _ _ _ => rfl), Or.inr (Nat.le_refl _)⟩, (Below.refl _ _).alloc (Nat.le_refl _) _⟩
  · obtain ⟨h2, rfl, rfl⟩ | ⟨g, rfl, ha, hb, hv⟩ := h.2
    · omega
    · have hq : (n : Int) ≤ (c0 : Int) := by omega
      have hv0 : Vec w g c0 0 0 (fun _ => 0) := hv.weaken' (fun j _ hj => absurd hj (Nat.not_lt_zero j))
      clear h
      go_enter Tryz.func94, Tryz.ntmps94
      go_wp2_with fail
      go_ret
      exact ⟨⟨g, c0, rfl, by omega, by omega, hv0, Or.inl rfl⟩, Below.refl _ _⟩
/-- w' is w, but for blocks made behind w's, and for A's row. -/
def ButRow (w w' : World) (A : Option Addr) : Prop := ∃ r, w.grownBy w' r ∧ ∀ g, r = Option.some g → A = Option.some ⟨g, 0, none⟩ ∨ w.heap.size ≤ g
set_option maxHeartbeats 2000000 in
/-- z set to a row of one word. -/
theorem set_one (w : World) (A : Option Addr) (c0 k ck Y : Nat) (h : NatIs w A 0 c0 0) (hy : NatIs w (Option.some ⟨k, 0, none⟩) 1 ck Y) :
    Calls Tryz.prog 93 #[.slice A 0 c0, .slice (Option.some ⟨k, 0, none⟩) 1 ck] w fun e w' => (∃ C n cap, e = .returned (.slice C n cap) ∧ NatIs w' C n cap Y) ∧ ButRow w w' A := by
  have hnorm := Lib.hid hy.1
  obtain ⟨k', hk', hya, hyb, hyv⟩ := natIs_row hy (by omega)
  obtain rfl : k = k' := by injection hk' with hk'; injection hk'
  clear hy
  go_enter Tryz.func93, Tryz.ntmps93
  go_wp2_with fail
  refine (make_any _ A 0 c0 0 1 h (by omega) (by omega)).mono ?_
  rintro e w1 ⟨⟨G, cp, rfl, hc1, hc2, hz1, hG⟩, hb1⟩
  have hvq : Vec w1 k ck 0 (0 + 1) (wd Y) := hyv.below hb1
  have HFF := Lib.hid (show ∀ j, 0 ≤ j → j < 1 → (0 ≤ j ∧ j < 0 + 1 ∧ wd Y j = wd Y (0 + (j - 0))) ∨ ((j < 0 ∨ 0 + 1 ≤ j) ∧ 0 ≤ j ∧ j < 0 ∧ wd Y j = 0) from fun j _ hj =>
    Or.inl ⟨Nat.zero_le _, by omega, by rw [Nat.sub_zero, Nat.zero_add]⟩)
  have HB := Lib.hid hb1
  clear hb1
  go_wp2_with (refine wpList_copy_vec rfl (.tmp 9) (.tmp 10) 92 92 rfl Tryz.underlying92 G 0 k 0 1 cp ck cp ck 0 0 0 1 (fun _ => 0) (wd Y) (wd Y) rfl rfl hz1 hvq (by omega) HFF.out ?_; intro w2 hv2 hg2)
  go_ret
  exact ⟨⟨_, 1, cp, rfl, hnorm.out, Or.inr ⟨G, rfl, by omega, by omega, hv2⟩⟩, some G, grown_trans (grown_of_below HB.out) hg2, fun g hg => by injection hg with hg; subst hg; exact hG⟩
set_option maxHeartbeats 2000000 in
theorem add_one (w : World) (A : Option Addr) (n0 c0 k ck Q : Nat) (h : NatIs w A n0 c0 Q) (hy : NatIs w (Option.some ⟨k, 0, none⟩) 1 ck 1) (hQ : Q + 1 < B64) :
    Calls Tryz.prog 83 #[.slice A n0 c0, .slice A n0 c0, .slice (Option.some ⟨k, 0, none⟩) 1 ck] w fun e w' => (∃ C n cap, e = .returned (.slice C n cap) ∧ NatIs w' C n cap (Q + 1)) ∧ ButRow w w' A := by
  by_cases h0 : Q = 0
  · subst h0
    obtain rfl := h.len_zero
    have hswap : Calls Tryz.prog 83 #[.slice A 0 c0, .slice (Option.some ⟨k, 0, none⟩) 1 ck, .slice A 0 c0] w fun e w' => (∃ C n cap, e = .returned (.slice C n cap) ∧ NatIs w' C n cap 1) ∧ ButRow w w' A := by
      go_enter Tryz.func83, Tryz.ntmps83
      go_wp2_with fail
      refine (set_one _ A c0 k ck 1 h hy).mono ?_
      rintro e w' ⟨⟨C, n, cap, rfl, hC⟩, hbut⟩
      go_wp2_with fail
      go_ret
      exact ⟨⟨C, n, cap, rfl, hC⟩, hbut⟩
    go_enter Tryz.func83, Tryz.ntmps83
    go_wp2_with fail
    refine hswap.mono ?_
    rintro e w' ⟨⟨C, n, cap, rfl, hC⟩, hbut⟩
    go_wp2_with fail
    go_ret
    exact ⟨⟨C, n, cap, rfl, hC⟩, hbut⟩
  · obtain rfl : n0 = 1 := by
      have h1 := h.len_pos (by omega)
      have h2 := natIs_len h (K := 1) (by rw [Nat.pow_one]; omega)
      omega
    obtain ⟨g, rfl, ha, hb, hv⟩ := natIs_row h (by omega)
    obtain ⟨k', hk', hya, hyb, hyv⟩ := natIs_row hy (by omega)
    obtain rfl : k = k' := by injection hk' with hk'; injection hk'
    have HQ := Lib.hid hQ
    have hw0 := wd_self Q (by omega)
    have hw1 := wd_self 1 (by decide)
    have hrun := run_addVV
    have hwd0 : wd (Q + 1) 0 = Q + 1 := wd_self (Q + 1) hQ
    have hwd1 : wd (Q + 1) 1 = 0 := by unfold wd; rw [Nat.pow_one, Nat.div_eq_of_lt hQ]; rfl
    clear hQ hy
    go_enter Tryz.func83, Tryz.ntmps83
    go_wp2_with fail
    refine (make_any _ (Option.some ⟨g, 0, none⟩) 1 c0 Q 2 h (by omega) (by omega)).mono ?_
    rintro e w1 ⟨⟨G, cp, rfl, hc1, hc2, hz1, hG⟩, hb1⟩
    have hcx := (hv.below hb1).cell 0 (Nat.le_refl _) (by omega)
    have hcy := (hyv.below hb1).cell 0 (Nat.le_refl _) (by omega)
    rw [hw0] at hcx
    rw [hw1] at hcy
    clear hv hyv h hw0 hw1
    obtain ⟨v0, hv0⟩ := hz1.some 0 (by omega)
    have hf0 := hz1.free 0
    have q1 : 1 ≤ cp := by omega
    have q2 : (1 : Int) ≤ (cp : Int) := by omega
    have q3 : (1 : Int) ≤ (c0 : Int) := by omega
    have q4 : (1 : Int) ≤ (ck : Int) := by omega
    go_wp2_with fail
    go_still_tail 9, (by kernel_rfl)
    change wpList _ _ _ _ _ w1.drew
    have HT := Lib.hid (addVV_one w1.drew G g k Q 1 cp c0 ck v0 hv0 hf0 hcx hcy HQ.out)
    have hbd : Below w.heap.size w w1.drew := ⟨hb1.os, hb1.tape, hb1.output, hb1.size, hb1.block⟩
    have hzd : Vec w1.drew G cp 0 0 (fun _ => 0) := hz1
    generalize w1.drew = W2 at *
    clear hz1 hb1 hcx hcy hv0 hf0
    go_wp2_with fail
    refine HT.out.mono ?_
    rintro e w3 ⟨rfl, j, rfl⟩
    have hzj : Vec (W2.drewN j) G cp 0 0 (fun _ => 0) := hzd
    have hbj : w.grownBy (W2.drewN j) (some G) := grown_drewN (grown_of_below hbd) j
    have hz2 : Vec ((W2.drewN j).setCell ⟨G, 0, none⟩ (.int .u64 ((Q + 1 : Nat) : Int))) G cp 0 1 (wd (Q + 1)) := hzj.set 0 (Q + 1) (by omega) hwd0.symm (fun i _ hi hne => absurd (by omega) hne)
    have hg2 := grown_set hbj 0 (.int .u64 ((Q + 1 : Nat) : Int))
    clear HT hzd hbd hzj hbj
    generalize (W2.drewN j).setCell ⟨G, 0, none⟩ (.int .u64 ((Q + 1 : Nat) : Int)) = W3 at *
    obtain ⟨v1, hv1⟩ := hz2.some 1 (by omega)
    have hf1 := hz2.free 1
    have hz3 : Vec (W3.setCell ⟨G, 1, none⟩ (.int .u64 (0 : Nat))) G cp 0 2 (wd (Q + 1)) := hz2.set 1 0 (by omega) hwd1.symm (fun i _ hi hne => ⟨Nat.zero_le _, by omega, rfl⟩)
    have hg3 := grown_set hg2 1 (.int .u64 (0 : Nat))
    have HZ := Lib.hid hz3
    have HG := Lib.hid hg3
    clear hz2 hg2 hz3 hg3
    go_wp2_with fail
    refine (norm_row _ G 2 cp (Q + 1) HZ.out (Nat.lt_of_lt_of_le HQ.out (by rw [Nat.pow_succ, Nat.pow_one]; unfold B64; omega)) hc1 hc2).mono ?_
    rintro e w4 ⟨⟨n, hn, hnorm, rfl⟩, rfl⟩
    go_wp2_with fail
    go_ret
    exact ⟨⟨_, n, cp, rfl, hnorm, Or.inr ⟨G, rfl, by omega, by omega, HZ.out.weaken (Nat.le_refl _) hn (fun _ _ _ => rfl)⟩⟩, some G, HG.out, fun g hg => by injection hg with hg; subst hg; exact hG⟩
end Go.Proofs.YtopilodakphhgaaGreatDoor
