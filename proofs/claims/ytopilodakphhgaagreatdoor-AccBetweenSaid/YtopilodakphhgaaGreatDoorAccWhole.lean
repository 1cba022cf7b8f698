/- (*Acc).whole: the real's size as a big.Int. -/
import Derived.Test.YtopilodakphhgaaGreatDoorAccSign
import Derived.Test.YtopilodakphhgaaGreatDoorNatLow
namespace Go.Proofs.YtopilodakphhgaaGreatDoor
set_option linter.unusedVariables false
set_option linter.unusedSimpArgs false
open Go Go.RowKit
set_option maxRecDepth 100000
theorem run_index76 (X i : Nat) (hi : i < 76) (w : World) : (Instr.index 61 (.agg (arrCells X)) (.int .i64 (i : Nat))).run Tryz.prog w = .ok (.int .u64 (wd X i : Nat)) w := by
  have hp := run_part X i hi w
  have hz : (sizeOf 31).run Tryz.prog w = .ok 1 w := by kernel_rfl
  have h1 : (0 : Int) ≤ (i : Int) ∧ (i : Int) < (76 : Nat) := by omega
  unfold Instr.index
  simp only [asIntOf, Sem.run_bind, Sem.run_pure, Result.andThen_ok, run_underlying Tryz.underlying61, if_pos h1, hz]
  rw [show (i : Int).toNat * 1 = i by omega]
  exact hp
/-- Block g is a row of 608 bytes, the last m of them X's. -/
def BytePart (w : World) (g m X : Nat) : Prop := ∃ cur, w.heap[g]? = Option.some (.cells cur 5 (0, 0)) ∧ cur.size = 608 ∧ ∀ j, j < m → cur[607 - j]? = Option.some (.int .u8 (bt8 X j : Nat))
theorem BytePart.some {w : World} {g m X : Nat} (h : BytePart w g m X) (j : Nat) (hj : j < 608) : ∃ v, w.cell? ⟨g, j, none⟩ = Option.some v ∧ w.frozen? ⟨g, j, none⟩ = false := by
  obtain ⟨cur, hc, hs, _⟩ := h
  rw [cell_of_row w g j _ _ _ hc]
  exact ⟨cur[j]'(by omega), Array.getElem?_eq_getElem _, frozen_of_row w g j _ _ hc⟩
theorem BytePart.step {w : World} {g m X : Nat} (h : BytePart w g m X) (hm : m < 608) (u : Int) (hu : u = (bt8 X m : Nat)) : BytePart (w.setCell ⟨g, 607 - m, none⟩ (.int .u8 u)) g (m + 1) X := by
  obtain ⟨cur, hc, hs, hv⟩ := h
  refine ⟨_, heap_setCell_same w g (607 - m) _ _ _ hc, by simpa using hs, fun j hj => ?_⟩
  rw [Array.getElem?_setIfInBounds]
  by_cases e : j = m
  · subst e; rw [if_pos rfl, if_pos (by omega), hu]
  · rw [if_neg (by omega)]; exact hv j (by omega)
theorem BytePart.row {w : World} {g X : Nat} (h : BytePart w g 608 X) : ByteRow w g X := by
  obtain ⟨cur, hc, hs, hv⟩ := h
  exact ⟨cur, hc, hv⟩
theorem byte_of_word (X i k : Nat) (hk : k < 8) : wd X i / 2 ^ (8 * k) % 256 = bt8 X (8 * i + k) := by
  unfold wd bt8
  rw [show (2 : Nat) ^ (8 * k) = 256 ^ k by rw [show (256 : Nat) = 2 ^ 8 from rfl, ← Nat.pow_mul]]
  rw [Nat.pow_add, ← Nat.div_div_eq_div_mul, B64_256, ← Nat.pow_mul]
  generalize X / 256 ^ (8 * i) = q
  obtain ⟨d, hd⟩ : ∃ d, 8 = k + 1 + d := ⟨8 - (k + 1), by omega⟩
  have h8 : 256 ^ 8 = 256 ^ k * (256 * 256 ^ d) := by
    rw [hd, Nat.pow_add, Nat.pow_succ, Nat.mul_assoc]
  rw [h8, Nat.mod_mul_right_div_self, Nat.mod_mul_right_mod]
theorem byte_cast (X i k : Nat) (hk : k < 8) : ((wd X i : Nat) : Int) / 2 ^ (8 * k) % 256 = (bt8 X (8 * i + k) : Nat) := by
  have h := byte_of_word X i k hk
  have e : ((wd X i : Nat) : Int) / 2 ^ (8 * k) = ((wd X i / 2 ^ (8 * k) : Nat) : Int) := by rw [Int.natCast_ediv, Int.natCast_pow]; rfl
  rw [e]
  generalize wd X i / 2 ^ (8 * k) = q at *
  omega
theorem infoB : (Tryz.prog.info? 5).map (fun i => (i.zero, i.size, i.bytes)) = Option.some (Option.some (.int .u8 0), 1, 1) := by kernel_rfl
def zeroBytes : Array Value := madeCells (Value.int .u8 0).cells (608 * 1)
theorem zeroBytes_size : zeroBytes.size = 608 := by unfold zeroBytes; rw [size_madeCells]
theorem run_make_608 (w : World) :
    (Instr.makeSlice 103 (.int .i64 608) (.int .i64 608)).run Tryz.prog w = .ok (.slice (Option.some ⟨w.heap.size, 0, none⟩) 608 608) (w.alloc (.cells zeroBytes 5)) := by
  obtain ⟨i0, hi, hz0, hz1, hz2⟩ := info_parts infoB
  have := run_make (P := Tryz.prog) w 103 5 i0 _ Tryz.underlying103 hi hz0 .i64 .i64 608 608 (by decide) (by decide) (by rw [hz2]; decide) (by decide)
  rw [hz1] at this
  exact this
theorem zeroInt : (Tryz.prog.info? 94).map (fun i => (i.zero, i.size)) = Option.some (Option.some (.agg #[.bool false, .slice none 0 0]), 2) := by kernel_rfl
set_option maxHeartbeats 2000000 in
theorem whole_any (w : World) (b X : Nat) (h : AccAt w b X false) (hX : X < TOP) :
    Calls Tryz.prog 39 #[.pointer (Option.some ⟨b, 0, none⟩)] w fun e w' => (∃ p, w.heap.size ≤ p ∧ e = .returned (.pointer (Option.some ⟨p, 0, none⟩)) ∧ IntIs w' p (absX X)) ∧ Below w.heap.size w w' := by
  have hb := h.lt
  have hz60 := (zero_of_info zeros76).1
  have hzi := (zero_of_info zeroInt).1
  have hm := run_make_608
  have hY := absX_lt X hX
  go_enter Tryz.func39, Tryz.ntmps39
  go_wp2_with fail
  refine (size_any w b X false h hX hb).mono ?_
  rintro e w1 ⟨rfl, hb1⟩
  have hs1 := hb1.size
  generalize hYY : absX X = Y at *
  have HY := Lib.hid hYY
  clear hYY
  go_wp2_with (first
    | (refine wpList_store_last rfl 61 (.tmp 3) (.tmp 9) rfl w1.heap.size (arrCells 0) (arrCells Y) rfl rfl rfl (info_arr _) (arr_sizes _ _) (arrCells_one Y) ?_)
    | (refine wpList_load_row rfl 61 (.tmp 3) rfl w1.heap.size rfl 61 (arrCells Y) (0, 0) _ (heap_alloc2_old w1 _ _) Tryz.underlying61 rfl (info_arr _) ?_))
  have hbw : Below w.heap.size w ((w1.alloc (Obj.cells (arrCells Y) 61)).alloc (Obj.cells zeroBytes 5)) := (hb1.alloc hs1 _).alloc (by simp; omega) _
  have hst : BytePart ((w1.alloc (Obj.cells (arrCells Y) 61)).alloc (Obj.cells zeroBytes 5)) (w1.heap.size + 1) 0 Y := ⟨_, heap_alloc2_new w1 _ _, zeroBytes_size, fun j hj => absurd hj (Nat.not_lt_zero j)⟩
  have hgs : w1.heap.size + 1 < ((w1.alloc (Obj.cells (arrCells Y) 61)).alloc (Obj.cells zeroBytes 5)).heap.size := by simp
  generalize hW : (w1.alloc (Obj.cells (arrCells Y) 61)).alloc (Obj.cells zeroBytes 5) = W at *
  have hgw : w.heap.size ≤ w1.heap.size + 1 := by omega
  generalize hG : w1.heap.size + 1 = g at *
  clear hW hG hb1 hs1 h hb hz60 hm
  go_loopw [12] (fun i wr => ∃ k : Nat, k ≤ 76 ∧ i = .int .i64 k ∧ BytePart wr g (8 * k) Y ∧ Below w.heap.size w wr ∧ g < wr.heap.size) (fun i _ => 76 - (intOf i).toNat)
  case atStart => exact ⟨0, by omega, rfl, hst, hbw, hgs⟩
  case round =>
    obtain ⟨i, hi, rfl, hp, hbr, hgr⟩ := hrel
    obtain ⟨wo, rfl⟩ : ∃ wo : World, wo = wr := ⟨_, rfl⟩
    clear hst hbw hgs
    by_cases hlt : i < 76
    · have hix := run_index76 Y i hlt
      go_wp2_with fail
      go_loopw [16] (fun kk wr => ∃ k : Nat, k ≤ 8 ∧ kk = .int .i64 k ∧ BytePart wr g (8 * i + k) Y ∧ Below w.heap.size w wr ∧ g < wr.heap.size) (fun kk _ => 8 - (intOf kk).toNat)
      case atStart => exact ⟨0, by omega, rfl, hp, hbr, hgr⟩
      case round =>
        obtain ⟨k, hk, rfl, hq, hbq, hgq⟩ := hrel
        by_cases hlt2 : k < 8
        · obtain ⟨v, hv, hf⟩ := hq.some (607 - 8 * i - k) (by omega)
          have hl := wd_le Y i
          have hstep := hq.step (by omega) ((wd Y i : Nat) / 2 ^ (8 * k) % 256) (byte_cast Y i k hlt2)
          rw [show 607 - (8 * i + k) = 607 - 8 * i - k by omega] at hstep
          have hbs := below_of_grown (grown_set (grown_of_below hbq) (607 - 8 * i - k) (.int .u8 ((wd Y i : Nat) / 2 ^ (8 * k) % 256))) hgw
          have hgs : g < (wr.setCell ⟨g, 607 - 8 * i - k, none⟩ (.int .u8 ((wd Y i : Nat) / 2 ^ (8 * k) % 256))).heap.size := by
            rw [show (wr.setCell ⟨g, 607 - 8 * i - k, none⟩ (.int .u8 ((wd Y i : Nat) / 2 ^ (8 * k) % 256))).heap.size = wr.heap.size by simp [World.setCell]]; exact hgq
          have HB := Lib.hid hbs
          have HG := Lib.hid hgs
          clear hbs hgs hq hbq hgq hp hbr hgr
          go_wp2_with fail
          go_roundw
          case rel => exact ⟨k + 1, by omega, by go_num, hstep, HB.out, HG.out⟩
          case measure => simp [intOf]; omega
        · obtain rfl : k = 8 := by omega
          clear hp hbr hgr
          go_wp2_with fail
          go_roundw
          case rel => exact ⟨i + 1, by omega, by go_num, hq, hbq, hgq⟩
          case measure => simp [intOf]; omega
    · obtain rfl : i = 76 := by omega
      have hrow := hp.row
      have hfr := heap_alloc_new wo (Obj.cells #[.bool false, .slice none 0 0] 94)
      have hrow2 : ByteRow (wo.alloc (Obj.cells #[.bool false, .slice none 0 0] 94)) g Y := hrow.below hgr ((Below.refl wo.heap.size wo).alloc (Nat.le_refl _) _)
      have hsz := hbr.size
      go_wp2_with fail
      refine (int_setBytes _ wo.heap.size g Y hfr hrow2 hY (by simp; omega)).mono ?_
      rintro e w2 ⟨rfl, hI, hg2⟩
      go_wp2_with fail
      go_ret
      refine ⟨⟨wo.heap.size, hsz, rfl, by rw [HY.out]; exact hI⟩, below_of_grown (g := wo.heap.size) (grown_trans (grown_trans (grown_of_below hbr) (World.grownBy_alloc _ _ _)) hg2) hsz⟩
end Go.Proofs.YtopilodakphhgaaGreatDoor
