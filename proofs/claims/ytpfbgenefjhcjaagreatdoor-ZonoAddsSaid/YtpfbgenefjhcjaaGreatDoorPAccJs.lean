/-
 (*Acc).Join: another one's real added, or taken away. (Written by gen_join.py.)
 (*Acc).Sign, Copy: what an Acc tells of itself.
 (*Acc).whole: the real's size as a big.Int.
-/
import Derived.Test.YtpfbgenefjhcjaaGreatDoorPAccPr
import Derived.Test.YtpfbgenefjhcjaaGreatDoorPNatLo
import Derived.ChangeKeysEq
import Derived.Laws.StructEq
namespace Go.Proofs.YtpfbgenefjhcjaaGreatDoor
set_option linter.unusedVariables false
set_option linter.unusedSimpArgs false
open Go Go.RowKit
set_option maxRecDepth 100000
structure JoinRel (w wr : World) (b vb Y : Nat) (S X n : Nat) : Prop where
 acc : AccAt wr b (mix n S X) false
 vec : wr.heap[vb]? = some (.cells (arrCells Y) 161 (0, 0))
 grown : w.grownBy wr (some b)
theorem JoinRel.step {w wr : World} {b vb Y S X n : Nat} (h : JoinRel w wr b vb Y S X n) (hn : n < 76) (hb : vb ≠ b) : JoinRel w (wr.setCell ⟨b, n, none⟩ (.int .u64 (wd S n : Nat))).drew b vb Y S X (n + 1) := by
 refine ⟨?_, ?_, ?_⟩
 ·have := heap_setCell_same wr b n _ _ (.int .u64 (wd S n : Nat)) h.acc
  rw [acc_step n S X false _ rfl hn] at this
  exact this
 ·exact (heap_setCell_other wr ⟨b, n, none⟩ vb _ hb).trans h.vec
 ·exact ⟨h.grown.os, h.grown.tape, h.grown.output, by
   have := h.grown.size
   show _ ≤ (wr.setCell _ _).heap.size
   rw [show (wr.setCell ⟨b, n, none⟩ (.int .u64 (wd S n : Nat))).heap.size = wr.heap.size by simp [World.setCell]]
   exact this, fun k hk hr => (heap_setCell_other wr ⟨b, n, none⟩ k _ (fun e => hr (by rw [e]))).trans (h.grown.block k hk hr)⟩
set_option maxHeartbeats 1000000 in
theorem join_plus (w : World) (b d X Y : Nat) (h : AccAt w b X false) (hy : AccAt w d Y false) (hX : X < TOP) (hY : Y < TOP) :
  Calls Tryz.prog 69 #[.pointer (some ⟨b, 0, none⟩), .pointer (some ⟨d, 0, none⟩), .bool false] w fun e w' => e = .returned (.tuple #[]) ∧ FitAt w' b ((X + Y) % TOP) ∧ w.grownBy w' (some b) := by
 have hb := h.lt
 have hd := hy.lt
 have hvb : w.heap.size ≠ b := by omega
 have hb1 := h.bad
 have hb2 := hy.bad
 have hr := hy.range
 have hz60 := (zero_of_info zeros76).1
 have hh := h.alloc (Obj.cells (arrCells Y) 161)
 go_enter Tryz.func69, Tryz.ntmps69
 go_wp2_with (first
  | (refine wpList_load_mid rfl 161 (.tmp 28) rfl d 0 rfl (wordCells 76 Y) _ hr Tryz.underlying161 rfl (info_words _) ?_)
  | (refine wpList_store_last rfl 161 (.tmp 6) (.tmp 29) rfl w.heap.size (arrCells 0) (arrCells Y) rfl rfl rfl (info_arr _) (arr_sizes _ _) (arrCells_one Y) ?_))
 go_loopw [7, 30] (fun c kk wr => ∃ k : Nat, k ≤ 76 ∧ kk = .int .i64 k ∧ c = .int .u64 (carry X Y k : Nat) ∧ JoinRel w wr b w.heap.size Y (X + Y) X k) (fun _ kk _ => 76 - (intOf kk).toNat)
 case atStart => exact ⟨0, by omega, rfl, by rw [carry_zero]; rfl, ⟨by rw [mix_zero]; exact hh, heap_alloc_new w _, World.grownBy_alloc _ _ _⟩⟩
 case round =>
  obtain ⟨k, hk, rfl, rfl, hrel⟩ := hrel
  by_cases hlt : k < 76
  ·have hc : wr.cell? ⟨b, k, none⟩ = some (.int .u64 (wd X k : Nat)) := by rw [hrel.acc.cell _ hlt, wd_mix_ge _ _ _ _ (Nat.le_refl _)]
   have hv : wr.cell? ⟨w.heap.size, k, none⟩ = some (.int .u64 (wd Y k : Nat)) := by rw [cell_of_row wr _ _ _ _ _ hrel.vec]; exact arrCells_get Y k hlt
   have hfz : wr.frozen? ⟨b, k, none⟩ = false := frozen_of_row wr b _ _ _ hrel.acc
   have hcl := carry_le X Y k
   have hw := add_word X Y k
   have hlt' : (k : Int) < 76 := by omega
   have hstep := hrel.step hlt hvb
   have hs := run_add_nat (wd X k) (wd Y k) (carry X Y k) _ _ hcl hw.1 hw.2
   clear hw hb1 hb2 hr hh h hy
   go_wp2_with fail
   go_region
   go_wp2_with fail
   go_roundw
   case rel => exact ⟨k + 1, by omega, by go_num, rfl, hstep⟩
   case measure => simp [intOf]; omega
  ·have hlt' : decide ((k : Int) < 76) = false := by simp; omega
   have hA : AccAt wr b ((X + Y) % TOP) false := by have := hrel.acc; rw [show k = 76 by omega, put_all _ _ hX] at this; exact this
   have hg := hrel.grown
   clear hrel hb1 hb2 hr hh h hy
   go_wp2_with fail
   refine (fit_any _ b ((X + Y) % TOP) hA (Nat.mod_lt _ TOP_pos)).mono ?_
   rintro e w1 ⟨rfl, hf, hg1⟩
   go_wp2_with fail
   go_end0
   exact ⟨rfl, hf, grown_trans hg hg1⟩
set_option maxHeartbeats 1000000 in
theorem join_minus (w : World) (b d X Y : Nat) (h : AccAt w b X false) (hy : AccAt w d Y false) (hX : X < TOP) (hY : Y < TOP) :
  Calls Tryz.prog 69 #[.pointer (some ⟨b, 0, none⟩), .pointer (some ⟨d, 0, none⟩), .bool true] w fun e w' => e = .returned (.tuple #[]) ∧ FitAt w' b ((X + TOP - Y) % TOP) ∧ w.grownBy w' (some b) := by
 have hb := h.lt
 have hd := hy.lt
 have hvb : w.heap.size ≠ b := by omega
 have hb1 := h.bad
 have hb2 := hy.bad
 have hr := hy.range
 have hz60 := (zero_of_info zeros76).1
 have hh := h.alloc (Obj.cells (arrCells Y) 161)
 go_enter Tryz.func69, Tryz.ntmps69
 go_wp2_with (first
  | (refine wpList_load_mid rfl 161 (.tmp 28) rfl d 0 rfl (wordCells 76 Y) _ hr Tryz.underlying161 rfl (info_words _) ?_)
  | (refine wpList_store_last rfl 161 (.tmp 6) (.tmp 29) rfl w.heap.size (arrCells 0) (arrCells Y) rfl rfl rfl (info_arr _) (arr_sizes _ _) (arrCells_one Y) ?_))
 go_loopw [7, 30] (fun c kk wr => ∃ k : Nat, k ≤ 76 ∧ kk = .int .i64 k ∧ c = .int .u64 (borrow X Y k : Nat) ∧ JoinRel w wr b w.heap.size Y (X + TOP - Y) X k) (fun _ kk _ => 76 - (intOf kk).toNat)
 case atStart => exact ⟨0, by omega, rfl, by rw [borrow_zero]; rfl, ⟨by rw [mix_zero]; exact hh, heap_alloc_new w _, World.grownBy_alloc _ _ _⟩⟩
 case round =>
  obtain ⟨k, hk, rfl, rfl, hrel⟩ := hrel
  by_cases hlt : k < 76
  ·have hc : wr.cell? ⟨b, k, none⟩ = some (.int .u64 (wd X k : Nat)) := by rw [hrel.acc.cell _ hlt, wd_mix_ge _ _ _ _ (Nat.le_refl _)]
   have hv : wr.cell? ⟨w.heap.size, k, none⟩ = some (.int .u64 (wd Y k : Nat)) := by rw [cell_of_row wr _ _ _ _ _ hrel.vec]; exact arrCells_get Y k hlt
   have hfz : wr.frozen? ⟨b, k, none⟩ = false := frozen_of_row wr b _ _ _ hrel.acc
   have hcl := borrow_le X Y k
   have hw := sub_word X Y k 76 hlt hX hY
   have hlt' : (k : Int) < 76 := by omega
   have hstep := hrel.step hlt hvb
   have hs := run_sub_nat (wd X k) (wd Y k) (borrow X Y k) _ _ hcl hw.1 hw.2
   clear hw hb1 hb2 hr hh h hy
   go_wp2_with fail
   go_region
   go_wp2_with fail
   go_roundw
   case rel => exact ⟨k + 1, by omega, by go_num, rfl, hstep⟩
   case measure => simp [intOf]; omega
  ·have hlt' : decide ((k : Int) < 76) = false := by simp; omega
   have hA : AccAt wr b ((X + TOP - Y) % TOP) false := by have := hrel.acc; rw [show k = 76 by omega, put_all _ _ hX] at this; exact this
   have hg := hrel.grown
   clear hrel hb1 hb2 hr hh h hy
   go_wp2_with fail
   refine (fit_any _ b ((X + TOP - Y) % TOP) hA (Nat.mod_lt _ TOP_pos)).mono ?_
   rintro e w1 ⟨rfl, hf, hg1⟩
   go_wp2_with fail
   go_end0
   exact ⟨rfl, hf, grown_trans hg hg1⟩
set_option maxHeartbeats 1000000 in
theorem join_bad (w : World) (b d X Y : Nat) (bx by_ neg : Bool) (h : AccAt w b X bx) (hy : AccAt w d Y by_) (hc : by_ = true ∨ (by_ = false ∧ bx = true)) :
  Calls Tryz.prog 69 #[.pointer (some ⟨b, 0, none⟩), .pointer (some ⟨d, 0, none⟩), .bool neg] w fun e w' => e = .returned (.tuple #[]) ∧ AccAt w' b 0 true ∧ w.grownBy w' (some b) := by
 have hb1 := h.bad
 have hb2 := hy.bad
 have fin := Lib.hid (And.intro (setRow_heap w b (accCells X bx) (accCells 0 true) 163 (0, 0) h) (grown_setRow w b (accCells 0 true)))
 go_enter Tryz.func69, Tryz.ntmps69
 rcases hc with rfl | ⟨rfl, rfl⟩
 ·go_wp2_with (refine wpList_store_row rfl 163 (.tmp 25) (.tmp 24) rfl b (accCells 0 true) rfl (by kernel_rfl) 163 (accCells X bx) h (info_acc _ _) (acc_sizes _ _ _ _) (acc_one _ _) ?_)
  refine bodyPost_ret (results_none rfl _ _ _) rfl ⟨rfl, fin.out⟩
 ·go_wp2_with (refine wpList_store_row rfl 163 (.tmp 25) (.tmp 24) rfl b (accCells 0 true) rfl (by kernel_rfl) 163 (accCells X true) h (info_acc _ _) (acc_sizes _ _ _ _) (acc_one _ _) ?_)
  refine bodyPost_ret (results_none rfl _ _ _) rfl ⟨rfl, fin.out⟩
theorem enc_sub_enc (x y : Int) : (enc x + TOP - enc y) % TOP = enc (x - y) := by
 have hl := enc_lt y
 rw [enc_sub x (enc y) (Nat.le_of_lt hl), enc_cast]
 unfold enc
 rw [Int.sub_emod, Int.emod_emod_of_dvd _ (Int.dvd_refl _), ← Int.sub_emod]
theorem enc_add_enc (x y : Int) : (enc x + enc y) % TOP = enc (x + y) := by
 rw [enc_add, enc_cast]
 unfold enc
 rw [Int.add_emod, Int.emod_emod_of_dvd _ (Int.dvd_refl _), ← Int.add_emod]
def joinS (s t : Option Int) (neg : Bool) : Option Int :=
 match s, t with
 | some x, some y => clip (bif neg then x - y else x + y)
 | _, _ => none
theorem join_any (w : World) (b d : Nat) (s t : Option Int) (neg : Bool) (h : AccIs w b s) (hy : AccIs w d t) :
  Calls Tryz.prog 69 #[.pointer (some ⟨b, 0, none⟩), .pointer (some ⟨d, 0, none⟩), .bool neg] w fun e w' => e = .returned (.tuple #[]) ∧ AccIs w' b (joinS s t neg) ∧ w.grownBy w' (some b) := by
 have ht := TOP_LIM
 cases t with
 | none =>
  cases s with
  | none => exact (join_bad w b d 0 0 true true neg h hy (Or.inl rfl)).mono fun e w' ⟨he, ha, hg⟩ => ⟨he, ha, hg⟩
  | some x => exact (join_bad w b d (enc x) 0 false true neg h.1 hy (Or.inl rfl)).mono fun e w' ⟨he, ha, hg⟩ => ⟨he, ha, hg⟩
 | some y =>
  cases s with
  | none => exact (join_bad w b d 0 (enc y) true false neg h hy.1 (Or.inr ⟨rfl, rfl⟩)).mono fun e w' ⟨he, ha, hg⟩ => ⟨he, ha, hg⟩
  | some x =>
   have h1 := h.2
   have h2 := hy.2
   cases neg with
   | false =>
    refine (join_plus w b d (enc x) (enc y) h.1 hy.1 (enc_lt x) (enc_lt y)).mono fun e w' ⟨he, hf, hg⟩ => ⟨he, ?_, hg⟩
    rw [enc_add_enc] at hf
    show AccIs w' b (clip (x + y))
    exact fit_clip (by omega) hf
   | true =>
    refine (join_minus w b d (enc x) (enc y) h.1 hy.1 (enc_lt x) (enc_lt y)).mono fun e w' ⟨he, hf, hg⟩ => ⟨he, ?_, hg⟩
    rw [enc_sub_enc] at hf
    show AccIs w' b (clip (x - y))
    exact fit_clip (by omega) hf
end Go.Proofs.YtpfbgenefjhcjaaGreatDoor
namespace Go.Proofs.YtpfbgenefjhcjaaGreatDoor
set_option linter.unusedVariables false
set_option linter.unusedSimpArgs false
open Go Go.RowKit
set_option maxRecDepth 100000
theorem run_part (X j : Nat) (hj : j < 76) (w : World) : (part 46 (wordCells 76 X).toArray j).run Tryz.prog w = .ok (.int .u64 (wd X j : Nat)) w := by
 have hc : ((wordCells 76 X).toArray)[j]? = some (.int .u64 (wd X j : Nat)) := arrCells_get X j hj
 have ha : (isAgg 46).run Tryz.prog w = .ok false w := by kernel_rfl
 unfold part
 rw [Sem.run_bind, ha]
 simp only [Result.andThen_ok, Bool.false_eq_true, if_false, hc, Sem.run_pure]
theorem zerosAcc : (Tryz.prog.info? 163).map (fun i => (i.zero, i.size)) = some (some (.agg (accCells 0 false)), 77) := by kernel_rfl
set_option maxHeartbeats 1000000 in
theorem copy_words (w : World) (b X : Nat) (bad : Bool) (h : AccAt w b X bad) :
  Calls Tryz.prog 68 #[.pointer (some ⟨b, 0, none⟩)] w fun e w' => e = .returned (.pointer (some ⟨w.heap.size, 0, none⟩)) ∧ w.alloc (.cells (accCells X bad) 163) = w' := by
 have hz := (zero_of_info zerosAcc).1
 go_enter Tryz.func68, Tryz.ntmps68
 go_wp2_with (first | (refine wpList_load_row rfl 163 (.tmp 5) rfl b rfl 163 (accCells X bad) (0, 0) _ h Tryz.underlying163 rfl (info_acc _ _) ?_) | (refine wpList_store_last rfl 163 (.tmp 3) (.tmp 6) rfl w.heap.size (accCells 0 false) (accCells X bad) rfl rfl rfl (info_acc _ _) (acc_sizes _ _ _ _) (acc_one _ _) ?_))
 go_ret
 exact ⟨rfl, rfl⟩
theorem copy_any (w : World) (b : Nat) (s : Option Int) (h : AccIs w b s) :
  Calls Tryz.prog 68 #[.pointer (some ⟨b, 0, none⟩)] w fun e w' => e = .returned (.pointer (some ⟨w.heap.size, 0, none⟩)) ∧ AccIs w' w.heap.size s ∧ Below w.heap.size w w' := by
 cases s with
 | none => exact (copy_words w b 0 true h).mono fun e w' ⟨he, hw⟩ => ⟨he, by subst hw; exact heap_alloc_new w _, by subst hw; exact (Below.refl _ _).alloc (Nat.le_refl _) _⟩
 | some z => exact (copy_words w b (enc z) false h.1).mono fun e w' ⟨he, hw⟩ => ⟨he, ⟨by subst hw; exact heap_alloc_new w _, h.2⟩, by subst hw; exact (Below.refl _ _).alloc (Nat.le_refl _) _⟩
end Go.Proofs.YtpfbgenefjhcjaaGreatDoor
namespace Go.Proofs.YtpfbgenefjhcjaaGreatDoor
set_option linter.unusedVariables false
set_option linter.unusedSimpArgs false
open Go Go.RowKit
set_option maxRecDepth 100000
theorem run_index76 (X i : Nat) (hi : i < 76) (w : World) : (Instr.index 161 (.agg (arrCells X)) (.int .i64 (i : Nat))).run Tryz.prog w = .ok (.int .u64 (wd X i : Nat)) w := by
 have hp := run_part X i hi w
 have hz : (sizeOf 46).run Tryz.prog w = .ok 1 w := by kernel_rfl
 have h1 : (0 : Int) ≤ (i : Int) ∧ (i : Int) < (76 : Nat) := by omega
 unfold Instr.index
 simp only [asIntOf, Sem.run_bind, Sem.run_pure, Result.andThen_ok, run_underlying Tryz.underlying161, if_pos h1, hz]
 rw [show (i : Int).toNat * 1 = i by omega]
 exact hp
/-- Block g is a row of 608 bytes, the last m of them X's. -/
def BytePart (w : World) (g m X : Nat) : Prop := ∃ cur, w.heap[g]? = Option.some (.cells cur 5 (0, 0)) ∧ cur.size = 608 ∧ ∀ j, j < m → cur[607 - j]? = Option.some (.int .u8 (bt8 X j : Nat))
theorem BytePart.some {w : World} {g m X : Nat} (h : BytePart w g m X) (j : Nat) (hj : j < 608) : ∃ v, w.cell? ⟨g, j, none⟩ = Option.some v ∧ w.frozen? ⟨g, j, none⟩ = false := by
 obtain ⟨cur, hc, hs, _⟩ := h
 rw [cell_of_row w g j _ _ _ hc]
 exact ⟨cur[j]'(by omega), Array.getElem?_eq_getElem _, frozen_of_row w g j _ _ hc⟩
theorem BytePart.step {w : World} {g m X : Nat} (h : BytePart w g m X) (hm : m < 608) (u : Int) (hu : u = (bt8 X m : Nat)) : BytePart (w.setCell ⟨g, 607 - m, none⟩ (.int .u8 u)) g (m + 1) X := by
 obtain ⟨cur, hc, hs, hv⟩ := h
 refine ⟨_, heap_setCell_same w g (607 - m) _ _ _ hc, by simpa using hs, fun j hj => ?_⟩
 rw [Array.getElem?_setIfInBounds]
 by_cases e : j = m
 ·subst e; rw [if_pos rfl, if_pos (by omega), hu]
 ·rw [if_neg (by omega)]; exact hv j (by omega)
theorem BytePart.row {w : World} {g X : Nat} (h : BytePart w g 608 X) : ByteRow w g X := by
 obtain ⟨cur, hc, hs, hv⟩ := h
 exact ⟨cur, hc, hv⟩
theorem byte_of_word (X i k : Nat) (hk : k < 8) : wd X i / 2 ^ (8 * k) % 256 = bt8 X (8 * i + k) := by
 unfold wd bt8
 rw [show (2 : Nat) ^ (8 * k) = 256 ^ k by rw [show (256 : Nat) = 2 ^ 8 from rfl, ← Nat.pow_mul]]
 rw [Nat.pow_add, ← Nat.div_div_eq_div_mul, B64_256, ← Nat.pow_mul]
 generalize X / 256 ^ (8 * i) = q
 obtain ⟨d, hd⟩ : ∃ d, 8 = k + 1 + d := ⟨8 - (k + 1), by omega⟩
 have h8 : 256 ^ 8 = 256 ^ k * (256 * 256 ^ d) := by
  rw [hd, Nat.pow_add, Nat.pow_succ, Nat.mul_assoc]
 rw [h8, Nat.mod_mul_right_div_self, Nat.mod_mul_right_mod]
theorem byte_cast (X i k : Nat) (hk : k < 8) : ((wd X i : Nat) : Int) / 2 ^ (8 * k) % 256 = (bt8 X (8 * i + k) : Nat) := by
 have h := byte_of_word X i k hk
 have e : ((wd X i : Nat) : Int) / 2 ^ (8 * k) = ((wd X i / 2 ^ (8 * k) : Nat) : Int) := by rw [Int.natCast_ediv, Int.natCast_pow]; rfl
 rw [e]
 generalize wd X i / 2 ^ (8 * k) = q at *
 omega
theorem infoB : (Tryz.prog.info? 5).map (fun i => (i.zero, i.size, i.bytes)) = Option.some (Option.some (.int .u8 0), 1, 1) := by kernel_rfl
def zeroBytes : Array Value := madeCells (Value.int .u8 0).cells (608 * 1)
theorem zeroBytes_size : zeroBytes.size = 608 := by unfold zeroBytes; rw [size_madeCells]
theorem run_make_608 (w : World) :
  (Instr.makeSlice 55 (.int .i64 608) (.int .i64 608)).run Tryz.prog w = .ok (.slice (Option.some ⟨w.heap.size, 0, none⟩) 608 608) (w.alloc (.cells zeroBytes 5)) := by
 obtain ⟨i0, hi, hz0, hz1, hz2⟩ := info_parts infoB
 have := run_make (P := Tryz.prog) w 55 5 i0 _ Tryz.underlying55 hi hz0 .i64 .i64 608 608 (by decide) (by decide) (by rw [hz2]; decide) (by decide)
 rw [hz1] at this
 exact this
theorem zeroInt : (Tryz.prog.info? 190).map (fun i => (i.zero, i.size)) = Option.some (Option.some (.agg #[.bool false, .slice none 0 0]), 2) := by kernel_rfl
set_option maxHeartbeats 2000000 in
theorem whole_any (w : World) (b X : Nat) (h : AccAt w b X false) (hX : X < TOP) :
  Calls Tryz.prog 114 #[.pointer (Option.some ⟨b, 0, none⟩)] w fun e w' => (∃ p, w.heap.size ≤ p ∧ e = .returned (.pointer (Option.some ⟨p, 0, none⟩)) ∧ IntIs w' p (absX X)) ∧ Below w.heap.size w w' := by
 have hb := h.lt
 have hz60 := (zero_of_info zeros76).1
 have hzi := (zero_of_info zeroInt).1
 have hm := run_make_608
 have hY := absX_lt X hX
 go_enter Tryz.func114, Tryz.ntmps114
 go_wp2_with fail
 refine (size_any w b X false h hX hb).mono ?_
 rintro e w1 ⟨rfl, hb1⟩
 have hs1 := hb1.size
 generalize hYY : absX X = Y at *
 have HY := Lib.hid hYY
 clear hYY
 go_wp2_with (first
  | (refine wpList_store_last rfl 161 (.tmp 3) (.tmp 9) rfl w1.heap.size (arrCells 0) (arrCells Y) rfl rfl rfl (info_arr _) (arr_sizes _ _) (arrCells_one Y) ?_)
  | (refine wpList_load_row rfl 161 (.tmp 3) rfl w1.heap.size rfl 161 (arrCells Y) (0, 0) _ (heap_alloc2_old w1 _ _) Tryz.underlying161 rfl (info_arr _) ?_))
 have hbw : Below w.heap.size w ((w1.alloc (Obj.cells (arrCells Y) 161)).alloc (Obj.cells zeroBytes 5)) := (hb1.alloc hs1 _).alloc (by simp; omega) _
 have hst : BytePart ((w1.alloc (Obj.cells (arrCells Y) 161)).alloc (Obj.cells zeroBytes 5)) (w1.heap.size + 1) 0 Y := ⟨_, heap_alloc2_new w1 _ _, zeroBytes_size, fun j hj => absurd hj (Nat.not_lt_zero j)⟩
 have hgs : w1.heap.size + 1 < ((w1.alloc (Obj.cells (arrCells Y) 161)).alloc (Obj.cells zeroBytes 5)).heap.size := by simp
 generalize hW : (w1.alloc (Obj.cells (arrCells Y) 161)).alloc (Obj.cells zeroBytes 5) = W at *
 have hgw : w.heap.size ≤ w1.heap.size + 1 := by omega
 generalize hG : w1.heap.size + 1 = g at *
 clear hW hG hb1 hs1 h hb hz60 hm
 go_loopw [12] (fun i wr => ∃ k : Nat, k ≤ 76 ∧ i = .int .i64 k ∧ BytePart wr g (8 * k) Y ∧ Below w.heap.size w wr ∧ g < wr.heap.size) (fun i _ => 76 - (intOf i).toNat)
 case atStart => exact ⟨0, by omega, rfl, hst, hbw, hgs⟩
 case round =>
  obtain ⟨i, hi, rfl, hp, hbr, hgr⟩ := hrel
  obtain ⟨wo, rfl⟩ : ∃ wo : World, wo = wr := ⟨_, rfl⟩
  clear hst hbw hgs
  by_cases hlt : i < 76
  ·have hix := run_index76 Y i hlt
   go_wp2_with fail
   go_loopw [16] (fun kk wr => ∃ k : Nat, k ≤ 8 ∧ kk = .int .i64 k ∧ BytePart wr g (8 * i + k) Y ∧ Below w.heap.size w wr ∧ g < wr.heap.size) (fun kk _ => 8 - (intOf kk).toNat)
   case atStart => exact ⟨0, by omega, rfl, hp, hbr, hgr⟩
   case round =>
    obtain ⟨k, hk, rfl, hq, hbq, hgq⟩ := hrel
    by_cases hlt2 : k < 8
    ·obtain ⟨v, hv, hf⟩ := hq.some (607 - 8 * i - k) (by omega)
     have hl := wd_le Y i
     have hstep := hq.step (by omega) ((wd Y i : Nat) / 2 ^ (8 * k) % 256) (byte_cast Y i k hlt2)
     rw [show 607 - (8 * i + k) = 607 - 8 * i - k by omega] at hstep
     have hbs := below_of_grown (grown_set (grown_of_below hbq) (607 - 8 * i - k) (.int .u8 ((wd Y i : Nat) / 2 ^ (8 * k) % 256))) hgw
     have hgs : g < (wr.setCell ⟨g, 607 - 8 * i - k, none⟩ (.int .u8 ((wd Y i : Nat) / 2 ^ (8 * k) % 256))).heap.size := by
      rw [show (wr.setCell ⟨g, 607 - 8 * i - k, none⟩ (.int .u8 ((wd Y i : Nat) / 2 ^ (8 * k) % 256))).heap.size = wr.heap.size by simp [World.setCell]]; exact hgq
     have HB := Lib.hid hbs
     have HG := Lib.hid hgs
     clear hbs hgs hq hbq hgq hp hbr hgr
     go_wp2_with fail
     go_roundw
     case rel => exact ⟨k + 1, by omega, by go_num, hstep, HB.out, HG.out⟩
     case measure => simp [intOf]; omega
    ·obtain rfl : k = 8 := by omega
     clear hp hbr hgr
     go_wp2_with fail
     go_roundw
     case rel => exact ⟨i + 1, by omega, by go_num, hq, hbq, hgq⟩
     case measure => simp [intOf]; omega
  ·obtain rfl : i = 76 := by omega
   have hrow := hp.row
   have hfr := heap_alloc_new wo (Obj.cells #[.bool false, .slice none 0 0] 190)
   have hrow2 : ByteRow (wo.alloc (Obj.cells #[.bool false, .slice none 0 0] 190)) g Y := hrow.below hgr ((Below.refl wo.heap.size wo).alloc (Nat.le_refl _) _)
   have hsz := hbr.size
   go_wp2_with fail
   refine (int_setBytes _ wo.heap.size g Y hfr hrow2 hY (by simp; omega)).mono ?_
   rintro e w2 ⟨rfl, hI, hg2⟩
   go_wp2_with fail
   go_ret
   refine ⟨⟨wo.heap.size, hsz, rfl, by rw [HY.out]; exact hI⟩, below_of_grown (g := wo.heap.size) (grown_trans (grown_trans (grown_of_below hbr) (World.grownBy_alloc _ _ _)) hg2) hsz⟩
end Go.Proofs.YtpfbgenefjhcjaaGreatDoor
