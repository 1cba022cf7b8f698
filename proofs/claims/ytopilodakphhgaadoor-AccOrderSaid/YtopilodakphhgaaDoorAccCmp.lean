/- (*Acc).Cmp: the real held against another one's. -/
import Derived.Test.YtopilodakphhgaaDoorAccSign
namespace Go.Proofs.YtopilodakphhgaaDoor
set_option linter.unusedVariables false
set_option linter.unusedSimpArgs false
open Go Go.RowKit
set_option maxRecDepth 100000
structure CmpRel (w wr : World) (vb : Nat) (S X n : Nat) : Prop where
  acc : AccAt wr vb (mix n S X) false
  below : Below w.heap.size w wr
theorem CmpRel.step {w wr : World} {vb S X n : Nat} (h : CmpRel w wr vb S X n) (hn : n < 76) (hb : w.heap.size ≤ vb) : CmpRel w (wr.setCell ⟨vb, n, none⟩ (.int .u64 (wd S n : Nat))).drew vb S X (n + 1) := by
  refine ⟨?_, ?_⟩
  · have := heap_setCell_same wr vb n _ _ (.int .u64 (wd S n : Nat)) h.acc
    rw [acc_step n S X false _ rfl hn] at this
    exact this
  · exact ⟨h.below.os, h.below.tape, h.below.output, by
      have := h.below.size
      show _ ≤ (wr.setCell _ _).heap.size
      rw [show (wr.setCell ⟨vb, n, none⟩ (.int .u64 (wd S n : Nat))).heap.size = wr.heap.size by simp [World.setCell]]
      exact this, fun k hk => (heap_setCell_other wr ⟨vb, n, none⟩ k _ (show k ≠ vb by omega)).trans (h.below.block k hk)⟩
set_option maxHeartbeats 1000000 in
theorem cmp_words (w : World) (b d X Y : Nat) (h : AccAt w b X false) (hy : AccAt w d Y false) (hX : X < TOP) (hY : Y < TOP) :
    Calls Tryd.prog 41 #[.pointer (some ⟨b, 0, none⟩), .pointer (some ⟨d, 0, none⟩)] w fun e w' => e = .returned (.tuple #[.int .i64 (signW ((X + TOP - Y) % TOP)), .bool true]) ∧ Below w.heap.size w w' := by
  have hb := h.lt
  have hd := hy.lt
  have hvb : w.heap.size ≤ w.heap.size := Nat.le_refl _
  have hb1 := h.bad
  have hb2 := hy.bad
  have hz := (zero_of_info zerosAcc).1
  go_enter Tryd.func41, Tryd.ntmps41
  go_wp2_with (first
    | (refine wpList_load_row rfl 62 (.tmp 24) rfl b rfl 62 (accCells X false) (0, 0) _ h Tryd.underlying62 rfl (info_acc _ _) ?_)
    | (refine wpList_store_last rfl 62 (.tmp 6) (.tmp 25) rfl w.heap.size (accCells 0 false) (accCells X false) rfl rfl rfl (info_acc _ _) (acc_sizes _ _ _ _) (acc_one _ _) ?_))
  go_loopw [7, 26] (fun c kk wr => ∃ k : Nat, k ≤ 76 ∧ kk = .int .i64 k ∧ c = .int .u64 (borrow X Y k : Nat) ∧ CmpRel w wr w.heap.size (X + TOP - Y) X k) (fun _ kk _ => 76 - (intOf kk).toNat)
  case atStart => exact ⟨0, by omega, rfl, by rw [borrow_zero]; rfl, ⟨by rw [mix_zero]; exact heap_alloc_new w _, (Below.refl _ _).alloc (Nat.le_refl _) _⟩⟩
  case round =>
    obtain ⟨k, hk, rfl, rfl, hrel⟩ := hrel
    by_cases hlt : k < 76
    · have hc : wr.cell? ⟨w.heap.size, k, none⟩ = some (.int .u64 (wd X k : Nat)) := by rw [hrel.acc.cell _ hlt, wd_mix_ge _ _ _ _ (Nat.le_refl _)]
      have hv : wr.cell? ⟨d, k, none⟩ = some (.int .u64 (wd Y k : Nat)) := (hy.below hd hrel.below).cell k hlt
      have hfz : wr.frozen? ⟨w.heap.size, k, none⟩ = false := frozen_of_row wr w.heap.size _ _ _ hrel.acc
      have hcl := borrow_le X Y k
      have hw := sub_word X Y k 76 hlt hX hY
      have hlt' : (k : Int) < 76 := by omega
      have hstep := hrel.step hlt hvb
      have hs := run_sub_nat (wd X k) (wd Y k) (borrow X Y k) _ _ hcl hw.1 hw.2
      clear hw hb1 hb2 h hy hvb
      go_wp2_with fail
      go_region
      go_wp2_with fail
      go_roundw
      case rel => exact ⟨k + 1, by omega, by go_num, rfl, hstep⟩
      case measure => simp [intOf]; omega
    · have hlt' : decide ((k : Int) < 76) = false := by simp; omega
      have hA : AccAt wr w.heap.size ((X + TOP - Y) % TOP) false := by have := hrel.acc; rw [show k = 76 by omega, put_all _ _ hX] at this; exact this
      have hg := hrel.below
      clear hrel hb1 hb2 h hy hvb
      go_wp2_with fail
      refine (sign_words _ w.heap.size ((X + TOP - Y) % TOP) hA (Nat.mod_lt _ TOP_pos)).mono ?_
      rintro e w1 ⟨rfl, rfl⟩
      go_wp2_with fail
      go_ret2
      exact ⟨rfl, hg⟩
theorem cmp_bad (w : World) (b d X Y : Nat) (bx by_ : Bool) (h : AccAt w b X bx) (hy : AccAt w d Y by_) (hc : bx = true ∨ (bx = false ∧ by_ = true)) :
    Calls Tryd.prog 41 #[.pointer (some ⟨b, 0, none⟩), .pointer (some ⟨d, 0, none⟩)] w fun e w' => e = .returned (.tuple #[.int .i64 0, .bool false]) ∧ Below w.heap.size w w' := by
  have hb1 := h.bad
  have hb2 := hy.bad
  go_enter Tryd.func41, Tryd.ntmps41
  rcases hc with rfl | ⟨rfl, rfl⟩
  · go_wp2_with fail
    go_ret2
    exact ⟨rfl, Below.refl _ _⟩
  · go_wp2_with fail
    go_ret2
    exact ⟨rfl, Below.refl _ _⟩
def cmpS (s t : Option Int) : Int × Bool :=
  match s, t with
  | some x, some y => ((x - y).sign, true)
  | _, _ => (0, false)
theorem cmp_any (w : World) (b d : Nat) (s t : Option Int) (h : AccIs w b s) (hy : AccIs w d t) :
    Calls Tryd.prog 41 #[.pointer (some ⟨b, 0, none⟩), .pointer (some ⟨d, 0, none⟩)] w fun e w' => e = .returned (.tuple #[.int .i64 (cmpS s t).1, .bool (cmpS s t).2]) ∧ Below w.heap.size w w' := by
  have ht := TOP_LIM
  cases s with
  | none =>
    cases t with
    | none => exact cmp_bad w b d 0 0 true true h hy (Or.inl rfl)
    | some y => exact cmp_bad w b d 0 (enc y) true false h hy.1 (Or.inl rfl)
  | some x =>
    cases t with
    | none => exact cmp_bad w b d (enc x) 0 false true h.1 hy (Or.inr ⟨rfl, rfl⟩)
    | some y =>
      have h1 := h.2
      have h2 := hy.2
      have := cmp_words w b d (enc x) (enc y) h.1 hy.1 (enc_lt x) (enc_lt y)
      rw [enc_sub_enc, signW_enc (x - y) (by omega)] at this
      exact this
end Go.Proofs.YtopilodakphhgaaDoor
