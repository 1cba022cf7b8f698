/- (nat).lsh, set, same, alias: into a new row. -/
import Derived.Test.YtopilodakphhgaaDoorNatShl
import Derived.Test.YtopilodakphhgaaDoorNatRsh
namespace Go.Proofs.YtopilodakphhgaaDoor
set_option linter.unusedVariables false
set_option linter.unusedSimpArgs false
open Go Go.RowKit
set_option maxRecDepth 100000
theorem below_drewN (w : World) (n : Nat) : Below w.heap.size w (w.drewN n) := ⟨rfl, rfl, rfl, Nat.le_refl _, fun _ _ => rfl⟩
theorem same_nil (w : World) (A : Option Addr) (m cx : Nat) :
    Calls Tryd.prog 83 #[.slice none 0 0, .slice A m cx] w fun e w' => e = .returned (.bool false) ∧ Below w.heap.size w w' := by
  by_cases h : m = 0
  · subst h
    go_enter Tryd.func83, Tryd.ntmps83
    go_wp2_with fail
    go_quiet (fail)
    go_wp2_with fail
    go_ret
    exact ⟨rfl, below_drewN w _⟩
  · have h' : ((0 : Int) == (m : Nat)) = false := by rw [beq_eq_false_iff_ne]; omega
    go_enter Tryd.func83, Tryd.ntmps83
    go_wp2_with fail
    go_quiet (fail)
    go_wp2_with fail
    go_ret
    exact ⟨rfl, below_drewN w _⟩
theorem alias_nil (w : World) (A : Option Addr) (m cx : Nat) :
    Calls Tryd.prog 84 #[.slice none 0 0, .slice A m cx] w fun e w' => e = .returned (.bool false) ∧ Below w.heap.size w w' := by
  go_enter Tryd.func84, Tryd.ntmps84
  go_wp2_with fail
  go_quiet (fail)
  go_wp2_with fail
  go_ret
  exact ⟨rfl, below_drewN w _⟩
set_option maxHeartbeats 2000000 in
theorem set_nil (w : World) (A : Option Addr) (m cx M : Nat) (h : NatIs w A m cx M) (h0 : 0 < m) (hm : m ≤ 50000) :
    Calls Tryd.prog 77 #[.slice none 0 0, .slice A m cx] w fun e w' => (∃ B n cap, e = .returned (.slice B n cap) ∧ NatIs w' B n cap M) ∧ Below w.heap.size w w' := by
  have hnorm := Lib.hid h.1
  obtain ⟨h1, _⟩ | ⟨g, rfl, hc1, hc2, hv⟩ := h.2
  · omega
  · have hgl := hv.lt
    clear h
    go_enter Tryd.func77, Tryd.ntmps77
    go_wp2_with fail
    refine (make_nil m h0 (by omega) _).mono ?_
    rintro e w1 ⟨cap, hc1', hc2', rfl, rfl⟩
    have hv1 := hv.below ((Below.refl w.heap.size w).alloc (Nat.le_refl _) (Obj.cells (zeroWords cap) 102))
    have hz1 := Vec.made w cap
    have hb1 : Below w.heap.size w (w.alloc (Obj.cells (zeroWords cap) 102)) := (Below.refl _ _).alloc (Nat.le_refl _) _
    generalize hW : w.alloc (Obj.cells (zeroWords cap) 102) = W at *
    clear hW
    have hvq : Vec W g cx 0 (0 + m) (wd M) := hv1.weaken (Nat.le_refl _) (by omega) (fun _ _ _ => rfl)
    have HF : ∀ j, 0 ≤ j → j < m → (0 ≤ j ∧ j < 0 + m ∧ wd M j = wd M (0 + (j - 0))) ∨ ((j < 0 ∨ 0 + m ≤ j) ∧ 0 ≤ j ∧ j < cap ∧ wd M j = 0) := fun j _ hj =>
      Or.inl ⟨Nat.zero_le _, by omega, by rw [Nat.sub_zero, Nat.zero_add]⟩
    have HFF := Lib.hid HF
    clear HF
    go_wp2_with (refine wpList_copy_vec rfl (.tmp 9) (.tmp 10) 84 84 rfl Tryd.underlying84 w.heap.size 0 g 0 m cap cx cap cx 0 cap 0 m (fun _ => 0) (wd M) (wd M) rfl rfl hz1 hvq (by omega) HFF.out ?_; intro w2 hv2 hg2)
    have hb2 := below_of_grown (grown_trans (grown_of_below hb1) hg2) (Nat.le_refl _)
    go_ret
    exact ⟨⟨_, m, cap, rfl, hnorm.out, Or.inr ⟨w.heap.size, rfl, by omega, by omega, hv2⟩⟩, hb2⟩
/-- What lsh makes of M's words, M 2^r B64^d: the lower d words are 0. -/
theorem wd_up_low (T d j : Nat) (h : j < d) : wd (T * B64 ^ d) j = 0 := by
  unfold wd
  obtain ⟨e, rfl⟩ : ∃ e, d = j + 1 + e := ⟨d - (j + 1), by omega⟩
  rw [show T * B64 ^ (j + 1 + e) = B64 ^ j * (B64 * (T * B64 ^ e)) by rw [Nat.pow_add, Nat.pow_succ]; ac_rfl, Nat.mul_div_cancel_left _ (Bpow_pos j), Nat.mul_mod_right]
theorem wd_up (T d j : Nat) (h : d ≤ j) : wd (T * B64 ^ d) j = wd T (j - d) := by
  obtain ⟨e, rfl⟩ : ∃ e, j = d + e := ⟨j - d, by omega⟩
  rw [Nat.add_sub_cancel_left]
  unfold wd
  rw [Nat.pow_add, ← Nat.div_div_eq_div_mul, Nat.mul_div_cancel _ (Bpow_pos d)]
theorem shl_all (M s q r : Nat) (hq : s / 64 = q) (hr : s % 64 = r) : M * 2 ^ r * B64 ^ q = M * 2 ^ s := by
  rw [B64_pow, Nat.mul_assoc, ← Nat.pow_add]
  congr 2
  omega
theorem shl_lt (M m s n : Nat) (h : M < B64 ^ m) (hn : n = m + s / 64) : M * 2 ^ s < B64 ^ (n + 1) := by
  rw [B64_pow] at *
  have h2 : M * 2 ^ s < 2 ^ (64 * m) * 2 ^ s := Nat.mul_lt_mul_of_pos_right h (Nat.two_pow_pos s)
  rw [← Nat.pow_add] at h2
  exact Nat.lt_of_lt_of_le h2 (Nat.pow_le_pow_right (by omega) (by omega))
set_option maxHeartbeats 4000000 in
theorem lsh_nil (w : World) (A : Option Addr) (m cx M s : Nat) (h : NatIs w A m cx M) (hs : s ≤ 50000) (hm : m ≤ 50000) (h0 : s = 0 → 0 < m) :
    Calls Tryd.prog 71 #[.slice none 0 0, .slice A m cx, .int .u64 (s : Nat)] w fun e w' => (∃ B n cap, e = .returned (.slice B n cap) ∧ NatIs w' B n cap (M * 2 ^ s)) ∧ Below w.heap.size w w' := by
  by_cases hs0 : s = 0
  · have hm0 := h0 hs0
    subst hs0
    have HP := Lib.hid (show M * 2 ^ 0 = M by rw [Nat.pow_zero, Nat.mul_one])
    go_enter Tryd.func71, Tryd.ntmps71
    go_wp2_with fail
    refine (same_nil _ A m cx).mono ?_
    rintro e w1 ⟨rfl, hb1⟩
    have hn1 := h.below hb1
    go_wp2_with fail
    refine (alias_nil _ A m cx).mono ?_
    rintro e w2 ⟨rfl, hb2⟩
    have hn2 := hn1.below hb2
    go_wp2_with fail
    refine (set_nil _ A m cx M hn2 hm0 hm).mono ?_
    rintro e w3 ⟨⟨B, n, cap, rfl, hn3⟩, hb3⟩
    go_wp2_with fail
    go_ret
    exact ⟨⟨B, n, cap, rfl, by rw [HP.out]; exact hn3⟩, (hb1.trans (hb2.mono hb1.size)).trans (hb3.mono (Nat.le_trans hb1.size hb2.size))⟩
  · have hs0' : (((s : Nat) : Int) == 0) = false := by rw [beq_eq_false_iff_ne]; omega
    by_cases hm0 : m = 0
    · subst hm0
      have hz := Lib.hid (show M * 2 ^ s = 0 by
        have := h.1.1
        rw [Nat.pow_zero] at this
        rw [show M = 0 by omega, Nat.zero_mul])
      go_enter Tryd.func71, Tryd.ntmps71
      go_wp2_with fail
      go_ret
      exact ⟨⟨none, 0, 0, rfl, by rw [hz.out]; exact natIs_zero _⟩, Below.refl _ _⟩
    · have hm0' : (((m : Nat) : Int) == 0) = false := by rw [beq_eq_false_iff_ne]; omega
      obtain ⟨q, hq⟩ : ∃ q, s / 64 = q := ⟨_, rfl⟩
      obtain ⟨r, hr⟩ : ∃ r, s % 64 = r := ⟨_, rfl⟩
      obtain ⟨n, hn⟩ : ∃ n, m + q = n := ⟨_, rfl⟩
      have hqi : ((s : Nat) : Int) / 64 = (q : Nat) := by omega
      have hri : ((s : Nat) : Int) % 64 = (r : Nat) := by omega
      have hni : ((m : Nat) : Int) + (q : Nat) = (n : Nat) := by omega
      have hnm : ((n : Nat) : Int) - (m : Nat) = (q : Nat) := by omega
      have hq1 : q ≤ 1000 := by omega
      have hr1 : r ≤ 63 := by omega
      have hn1 : n ≤ 51000 := by omega
      have hqn : (q : Int) ≤ (n : Int) := by omega
      have HQ := Lib.hid hq
      have HR := Lib.hid hr
      have HN := Lib.hid hn
      have HML := Lib.hid (shl_lt M m s n h.1.1 (by rw [hq]; exact hn.symm))
      have HAL := Lib.hid (shl_all M s q r hq hr)
      have hlt := h.1.1
      have hrow := h.2
      clear h hq hr h0 hn hs0
      obtain ⟨h0, hA, _⟩ | ⟨g, rfl, hc1, hc2, hv⟩ := hrow
      · exfalso; omega
      · have hgl := hv.lt
        have hn1i : ((n : Int) + 1) = ((n + 1 : Nat) : Int) := by omega
        have HNI := Lib.hid hn1i
        clear hn1i
        go_enter Tryd.func71, Tryd.ntmps71
        go_wp2_with fail
        rw [HNI.out]
        refine (make_nil (n + 1) (by omega) (by omega) _).mono ?_
        rintro e w1 ⟨cap, hc1', hc2', rfl, rfl⟩
        have hv1 := hv.below ((Below.refl w.heap.size w).alloc (Nat.le_refl _) (Obj.cells (zeroWords cap) 102))
        have hz1 := Vec.made w cap
        have hb1 : Below w.heap.size w (w.alloc (Obj.cells (zeroWords cap) 102)) := (Below.refl _ _).alloc (Nat.le_refl _) _
        generalize hW : w.alloc (Obj.cells (zeroWords cap) 102) = W at *
        clear hW
        have hmq : n - q = m := by have := HN.out; omega
        have hvq : Vec W g cx 0 (0 + m) (wd M) := hv1.weaken (Nat.le_refl _) (by omega) (fun _ _ _ => rfl)
        have hgv : g ≠ w.heap.size := by omega
        have hn0 := HN.out
        have hlowF : ∀ j, j < q → wd (M * 2 ^ s) j = 0 := fun j hj => by rw [← HAL.out]; exact wd_up_low _ q j hj
        have hupF : ∀ j, q ≤ j → wd (M * 2 ^ s) j = wd (M * 2 ^ r) (j - q) := fun j hj => by rw [← HAL.out]; exact wd_up _ q j hj
        have HLF := Lib.hid hlowF
        have HUF := Lib.hid hupF
        clear hlowF hupF
        have fin : ∀ w4 : World, Vec w4 w.heap.size cap 0 (n + 1) (wd (M * 2 ^ s)) → Below w.heap.size w w4 → ∀ k, k ≤ n + 1 → NormLen k (M * 2 ^ s) → (∃ B n' cap', Ending.returned (.slice (Option.some ⟨w.heap.size, 0, none⟩) k cap) = Ending.returned (.slice B n' cap') ∧ NatIs w4 B n' cap' (M * 2 ^ s)) ∧ Below w.heap.size w w4 :=
          fun w4 h4 hb4 k hk hnorm => ⟨⟨_, k, cap, rfl, hnorm, Or.inr ⟨w.heap.size, rfl, by omega, by omega, h4.weaken (Nat.le_refl _) hk (fun _ _ _ => rfl)⟩⟩, hb4⟩
        have FIN := Lib.hid fin
        clear fin
        by_cases hr0 : r = 0
        · subst hr0
          have hw0 : ∀ j, wd (M * 2 ^ 0) j = wd M j := fun j => by rw [Nat.pow_zero, Nat.mul_one]
          have HCF := Lib.hid (show ∀ j, q ≤ j → j < n → (q ≤ j ∧ j < q + m ∧ wd (M * 2 ^ s) j = wd M (0 + (j - q))) ∨ ((j < q ∨ q + m ≤ j) ∧ 0 ≤ j ∧ j < cap ∧ wd (M * 2 ^ s) j = 0) from fun j a b => Or.inl ⟨a, by omega, by rw [HUF.out j a, hw0, Nat.zero_add]⟩)
          have hzn : wd (M * 2 ^ s) n = 0 := by
            rw [HUF.out n (by omega), hw0, show n - q = m by omega]
            unfold wd
            rw [Nat.div_eq_of_lt hlt]; rfl
          have HZN := Lib.hid hzn
          clear hzn hw0
          go_wp2_with (first
            | (refine wpList_copy_vec rfl (.tmp 46) (.tmp 47) 84 84 rfl Tryd.underlying84 w.heap.size q g 0 m (cap - q) cx cap cx 0 cap q n (fun _ => 0) (wd (M * 2 ^ s)) (wd M) rfl rfl hz1 hvq (by omega) HCF.out ?_; intro w2 hv2 hg2; obtain ⟨v0, hcv⟩ := hv2.some n (by omega); have hfv := hv2.free n; have hv3 : Vec (w2.setCell ⟨w.heap.size, n, none⟩ (.int .u64 (0 : Nat))) w.heap.size cap q (n + 1) (wd (M * 2 ^ s)) := (hv2.set n 0 (by omega) HZN.out.symm (fun j a b hne => ⟨a, by omega, rfl⟩)); have hg3 := grown_set hg2 n (.int .u64 (0 : Nat)); have HV3 := Lib.hid hv3; have HG3 := Lib.hid hg3; clear hv3 hg3 hv2 hg2)
            | (refine wpList_clear_vec rfl (.tmp 68) 84 rfl Tryd.underlying84 w.heap.size q cap cap q (n + 1) 0 (n + 1) (wd (M * 2 ^ s)) (wd (M * 2 ^ s)) rfl HV3.out (by omega) (fun j a b => if hj : j < q then Or.inl ⟨hj, HLF.out j hj⟩ else Or.inr ⟨by omega, by omega, b, rfl⟩) ?_; intro w4 hv4 hg4; have hb4 := Lib.hid (below_of_grown (grown_trans (grown_trans (grown_of_below hb1) HG3.out) hg4) (Nat.le_refl _)); clear hg4))
          refine (norm_row _ w.heap.size (n + 1) cap (M * 2 ^ s) hv4 HML.out hc1' (by omega)).mono ?_
          rintro e w5 ⟨⟨k, hk, hnorm, rfl⟩, rfl⟩
          go_wp2_with fail
          go_ret
          exact FIN.out _ hv4 hb4.out k hk hnorm
        · have hr0' : (((r : Nat) : Int) == 0) = false := by rw [beq_eq_false_iff_ne]; omega
          have hlv := run_lshVU
          go_wp2_with fail
          refine (lshVU_any _ w.heap.size cap q m g cx M r (cap - q) cx 0 cap (fun _ => 0) hz1 hv1 hlt hgv (by omega) (by omega) (by omega) (by omega) hr1).mono ?_
          rintro e w2 ⟨rfl, hv2, hg2⟩
          obtain ⟨v0, hcv⟩ := hv2.some n (by omega)
          have hfv := hv2.free n
          have hv3 : Vec (w2.setCell ⟨w.heap.size, n, none⟩ (.int .u64 (wd (M * 2 ^ r) m : Nat))) w.heap.size cap q (n + 1) (wd (M * 2 ^ s)) :=
            hv2.set n (wd (M * 2 ^ r) m) (by omega) (by rw [HUF.out n (by omega), show n - q = m by omega]) (fun j a b hne => ⟨a, by omega, (HUF.out j a).symm⟩)
          have hg3 := grown_set hg2 n (.int .u64 (wd (M * 2 ^ r) m : Nat))
          have HV3 := Lib.hid hv3
          have HG3 := Lib.hid hg3
          clear hv3 hg3 hv2 hg2
          go_wp2_with (refine wpList_clear_vec rfl (.tmp 68) 84 rfl Tryd.underlying84 w.heap.size q cap cap q (n + 1) 0 (n + 1) (wd (M * 2 ^ s)) (wd (M * 2 ^ s)) rfl HV3.out (by omega) (fun j a b => if hj : j < q then Or.inl ⟨hj, HLF.out j hj⟩ else Or.inr ⟨by omega, by omega, b, rfl⟩) ?_; intro w4 hv4 hg4; have hb4 := Lib.hid (below_of_grown (grown_trans (grown_trans (grown_of_below hb1) HG3.out) hg4) (Nat.le_refl _)); clear hg4)
          refine (norm_row _ w.heap.size (n + 1) cap (M * 2 ^ s) hv4 HML.out hc1' (by omega)).mono ?_
          rintro e w5 ⟨⟨k, hk, hnorm, rfl⟩, rfl⟩
          go_wp2_with fail
          go_ret
          exact FIN.out _ hv4 hb4.out k hk hnorm
end Go.Proofs.YtopilodakphhgaaDoor
