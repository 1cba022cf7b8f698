/- (*Acc).Join: another one's real added, or taken away. (Written by gen_join.py.) -/
import Derived.Test.YtopilodakphhgaaDoorAccInt
namespace Go.Proofs.YtopilodakphhgaaDoor
set_option linter.unusedVariables false
set_option linter.unusedSimpArgs false
open Go Go.RowKit
set_option maxRecDepth 100000
structure JoinRel (w wr : World) (b vb Y : Nat) (S X n : Nat) : Prop where
  acc : AccAt wr b (mix n S X) false
  vec : wr.heap[vb]? = some (.cells (arrCells Y) 60 (0, 0))
  grown : w.grownBy wr (some b)
theorem JoinRel.step {w wr : World} {b vb Y S X n : Nat} (h : JoinRel w wr b vb Y S X n) (hn : n < 76) (hb : vb ≠ b) : JoinRel w (wr.setCell ⟨b, n, none⟩ (.int .u64 (wd S n : Nat))).drew b vb Y S X (n + 1) := by
  refine ⟨?_, ?_, ?_⟩
  · have := heap_setCell_same wr b n _ _ (.int .u64 (wd S n : Nat)) h.acc
    rw [acc_step n S X false _ rfl hn] at this
    exact this
  · exact (heap_setCell_other wr ⟨b, n, none⟩ vb _ hb).trans h.vec
  · exact ⟨h.grown.os, h.grown.tape, h.grown.output, by
      have := h.grown.size
      show _ ≤ (wr.setCell _ _).heap.size
      rw [show (wr.setCell ⟨b, n, none⟩ (.int .u64 (wd S n : Nat))).heap.size = wr.heap.size by simp [World.setCell]]
      exact this, fun k hk hr => (heap_setCell_other wr ⟨b, n, none⟩ k _ (fun e => hr (by rw [e]))).trans (h.grown.block k hk hr)⟩
set_option maxHeartbeats 1000000 in
theorem join_plus (w : World) (b d X Y : Nat) (h : AccAt w b X false) (hy : AccAt w d Y false) (hX : X < TOP) (hY : Y < TOP) :
    Calls Tryd.prog 15 #[.pointer (some ⟨b, 0, none⟩), .pointer (some ⟨d, 0, none⟩), .bool false] w fun e w' => e = .returned (.tuple #[]) ∧ FitAt w' b ((X + Y) % TOP) ∧ w.grownBy w' (some b) := by
  have hb := h.lt
  have hd := hy.lt
  have hvb : w.heap.size ≠ b := by omega
  have hb1 := h.bad
  have hb2 := hy.bad
  have hr := hy.range
  have hz60 := (zero_of_info zeros76).1
  have hh := h.alloc (Obj.cells (arrCells Y) 60)
  go_enter Tryd.func15, Tryd.ntmps15
  go_wp2_with (first
    | (refine wpList_load_mid rfl 60 (.tmp 28) rfl d 0 rfl (wordCells 76 Y) _ hr Tryd.underlying60 rfl (info_words _) ?_)
    | (refine wpList_store_last rfl 60 (.tmp 6) (.tmp 29) rfl w.heap.size (arrCells 0) (arrCells Y) rfl rfl rfl (info_arr _) (arr_sizes _ _) (arrCells_one Y) ?_))
  go_loopw [7, 30] (fun c kk wr => ∃ k : Nat, k ≤ 76 ∧ kk = .int .i64 k ∧ c = .int .u64 (carry X Y k : Nat) ∧ JoinRel w wr b w.heap.size Y (X + Y) X k) (fun _ kk _ => 76 - (intOf kk).toNat)
  case atStart => exact ⟨0, by omega, rfl, by rw [carry_zero]; rfl, ⟨by rw [mix_zero]; exact hh, heap_alloc_new w _, World.grownBy_alloc _ _ _⟩⟩
  case round =>
    obtain ⟨k, hk, rfl, rfl, hrel⟩ := hrel
    by_cases hlt : k < 76
    · have hc : wr.cell? ⟨b, k, none⟩ = some (.int .u64 (wd X k : Nat)) := by rw [hrel.acc.cell _ hlt, wd_mix_ge _ _ _ _ (Nat.le_refl _)]
      have hv : wr.cell? ⟨w.heap.size, k, none⟩ = some (.int .u64 (wd Y k : Nat)) := by rw [cell_of_row wr _ _ _ _ _ hrel.vec]; exact arrCells_get Y k hlt
      have hfz : wr.frozen? ⟨b, k, none⟩ = false := frozen_of_row wr b _ _ _ hrel.acc
      have hcl := carry_le X Y k
      have hw := add_word X Y k
      have hlt' : (k : Int) < 76 := by omega
      have hstep := hrel.step hlt hvb
      have hs := run_add_nat (wd X k) (wd Y k) (carry X Y k) _ _ hcl hw.1 hw.2
      clear hw hb1 hb2 hr hh h hy
      go_wp2_with fail
      go_region
      go_wp2_with fail
      go_roundw
      case rel => exact ⟨k + 1, by omega, by go_num, rfl, hstep⟩
      case measure => simp [intOf]; omega
    · have hlt' : decide ((k : Int) < 76) = false := by simp; omega
      have hA : AccAt wr b ((X + Y) % TOP) false := by have := hrel.acc; rw [show k = 76 by omega, put_all _ _ hX] at this; exact this
      have hg := hrel.grown
      clear hrel hb1 hb2 hr hh h hy
      go_wp2_with fail
      refine (fit_any _ b ((X + Y) % TOP) hA (Nat.mod_lt _ TOP_pos)).mono ?_
      rintro e w1 ⟨rfl, hf, hg1⟩
      go_wp2_with fail
      go_end0
      exact ⟨rfl, hf, grown_trans hg hg1⟩
set_option maxHeartbeats 1000000 in
theorem join_minus (w : World) (b d X Y : Nat) (h : AccAt w b X false) (hy : AccAt w d Y false) (hX : X < TOP) (hY : Y < TOP) :
    Calls Tryd.prog 15 #[.pointer (some ⟨b, 0, none⟩), .pointer (some ⟨d, 0, none⟩), .bool true] w fun e w' => e = .returned (.tuple #[]) ∧ FitAt w' b ((X + TOP - Y) % TOP) ∧ w.grownBy w' (some b) := by
  have hb := h.lt
  have hd := hy.lt
  have hvb : w.heap.size ≠ b := by omega
  have hb1 := h.bad
  have hb2 := hy.bad
  have hr := hy.range
  have hz60 := (zero_of_info zeros76).1
  have hh := h.alloc (Obj.cells (arrCells Y) 60)
  go_enter Tryd.func15, Tryd.ntmps15
  go_wp2_with (first
    | (refine wpList_load_mid rfl 60 (.tmp 28) rfl d 0 rfl (wordCells 76 Y) _ hr Tryd.underlying60 rfl (info_words _) ?_)
    | (refine wpList_store_last rfl 60 (.tmp 6) (.tmp 29) rfl w.heap.size (arrCells 0) (arrCells Y) rfl rfl rfl (info_arr _) (arr_sizes _ _) (arrCells_one Y) ?_))
  go_loopw [7, 30] (fun c kk wr => ∃ k : Nat, k ≤ 76 ∧ kk = .int .i64 k ∧ c = .int .u64 (borrow X Y k : Nat) ∧ JoinRel w wr b w.heap.size Y (X + TOP - Y) X k) (fun _ kk _ => 76 - (intOf kk).toNat)
  case atStart => exact ⟨0, by omega, rfl, by rw [borrow_zero]; rfl, ⟨by rw [mix_zero]; exact hh, heap_alloc_new w _, World.grownBy_alloc _ _ _⟩⟩
  case round =>
    obtain ⟨k, hk, rfl, rfl, hrel⟩ := hrel
    by_cases hlt : k < 76
    · have hc : wr.cell? ⟨b, k, none⟩ = some (.int .u64 (wd X k : Nat)) := by rw [hrel.acc.cell _ hlt, wd_mix_ge _ _ _ _ (Nat.le_refl _)]
      have hv : wr.cell? ⟨w.heap.size, k, none⟩ = some (.int .u64 (wd Y k : Nat)) := by rw [cell_of_row wr _ _ _ _ _ hrel.vec]; exact arrCells_get Y k hlt
      have hfz : wr.frozen? ⟨b, k, none⟩ = false := frozen_of_row wr b _ _ _ hrel.acc
      have hcl := borrow_le X Y k
      have hw := sub_word X Y k 76 hlt hX hY
      have hlt' : (k : Int) < 76 := by omega
      have hstep := hrel.step hlt hvb
      have hs := run_sub_nat (wd X k) (wd Y k) (borrow X Y k) _ _ hcl hw.1 hw.2
      clear hw hb1 hb2 hr hh h hy
      go_wp2_with fail
      go_region
      go_wp2_with fail
      go_roundw
      case rel => exact ⟨k + 1, by omega, by go_num, rfl, hstep⟩
      case measure => simp [intOf]; omega
    · have hlt' : decide ((k : Int) < 76) = false := by simp; omega
      have hA : AccAt wr b ((X + TOP - Y) % TOP) false := by have := hrel.acc; rw [show k = 76 by omega, put_all _ _ hX] at this; exact this
      have hg := hrel.grown
      clear hrel hb1 hb2 hr hh h hy
      go_wp2_with fail
      refine (fit_any _ b ((X + TOP - Y) % TOP) hA (Nat.mod_lt _ TOP_pos)).mono ?_
      rintro e w1 ⟨rfl, hf, hg1⟩
      go_wp2_with fail
      go_end0
      exact ⟨rfl, hf, grown_trans hg hg1⟩
set_option maxHeartbeats 1000000 in
theorem join_bad (w : World) (b d X Y : Nat) (bx by_ neg : Bool) (h : AccAt w b X bx) (hy : AccAt w d Y by_) (hc : by_ = true ∨ (by_ = false ∧ bx = true)) :
    Calls Tryd.prog 15 #[.pointer (some ⟨b, 0, none⟩), .pointer (some ⟨d, 0, none⟩), .bool neg] w fun e w' => e = .returned (.tuple #[]) ∧ AccAt w' b 0 true ∧ w.grownBy w' (some b) := by
  have hb1 := h.bad
  have hb2 := hy.bad
  have fin := Lib.hid (And.intro (setRow_heap w b (accCells X bx) (accCells 0 true) 62 (0, 0) h) (grown_setRow w b (accCells 0 true)))
  go_enter Tryd.func15, Tryd.ntmps15
  rcases hc with rfl | ⟨rfl, rfl⟩
  · go_wp2_with (refine wpList_store_row rfl 62 (.tmp 25) (.tmp 24) rfl b (accCells 0 true) rfl (by kernel_rfl) 62 (accCells X bx) h (info_acc _ _) (acc_sizes _ _ _ _) (acc_one _ _) ?_)
    refine bodyPost_ret (results_none rfl _ _ _) rfl ⟨rfl, fin.out⟩
  · go_wp2_with (refine wpList_store_row rfl 62 (.tmp 25) (.tmp 24) rfl b (accCells 0 true) rfl (by kernel_rfl) 62 (accCells X true) h (info_acc _ _) (acc_sizes _ _ _ _) (acc_one _ _) ?_)
    refine bodyPost_ret (results_none rfl _ _ _) rfl ⟨rfl, fin.out⟩
theorem enc_sub_enc (x y : Int) : (enc x + TOP - enc y) % TOP = enc (x - y) := by
  have hl := enc_lt y
  rw [enc_sub x (enc y) (Nat.le_of_lt hl), enc_cast]
  unfold enc
  rw [Int.sub_emod, Int.emod_emod_of_dvd _ (Int.dvd_refl _), ← Int.sub_emod]
theorem enc_add_enc (x y : Int) : (enc x + enc y) % TOP = enc (x + y) := by
  rw [enc_add, enc_cast]
  unfold enc
  rw [Int.add_emod, Int.emod_emod_of_dvd _ (Int.dvd_refl _), ← Int.add_emod]
def joinS (s t : Option Int) (neg : Bool) : Option Int :=
  match s, t with
  | some x, some y => clip (bif neg then x - y else x + y)
  | _, _ => none
theorem join_any (w : World) (b d : Nat) (s t : Option Int) (neg : Bool) (h : AccIs w b s) (hy : AccIs w d t) :
    Calls Tryd.prog 15 #[.pointer (some ⟨b, 0, none⟩), .pointer (some ⟨d, 0, none⟩), .bool neg] w fun e w' => e = .returned (.tuple #[]) ∧ AccIs w' b (joinS s t neg) ∧ w.grownBy w' (some b) := by
  have ht := TOP_LIM
  cases t with
  | none =>
    cases s with
    | none => exact (join_bad w b d 0 0 true true neg h hy (Or.inl rfl)).mono fun e w' ⟨he, ha, hg⟩ => ⟨he, ha, hg⟩
    | some x => exact (join_bad w b d (enc x) 0 false true neg h.1 hy (Or.inl rfl)).mono fun e w' ⟨he, ha, hg⟩ => ⟨he, ha, hg⟩
  | some y =>
    cases s with
    | none => exact (join_bad w b d 0 (enc y) true false neg h hy.1 (Or.inr ⟨rfl, rfl⟩)).mono fun e w' ⟨he, ha, hg⟩ => ⟨he, ha, hg⟩
    | some x =>
      have h1 := h.2
      have h2 := hy.2
      cases neg with
      | false =>
        refine (join_plus w b d (enc x) (enc y) h.1 hy.1 (enc_lt x) (enc_lt y)).mono fun e w' ⟨he, hf, hg⟩ => ⟨he, ?_, hg⟩
        rw [enc_add_enc] at hf
        show AccIs w' b (clip (x + y))
        exact fit_clip (by omega) hf
      | true =>
        refine (join_minus w b d (enc x) (enc y) h.1 hy.1 (enc_lt x) (enc_lt y)).mono fun e w' ⟨he, hf, hg⟩ => ⟨he, ?_, hg⟩
        rw [enc_sub_enc] at hf
        show AccIs w' b (clip (x - y))
        exact fit_clip (by omega) hf
end Go.Proofs.YtopilodakphhgaaDoor
