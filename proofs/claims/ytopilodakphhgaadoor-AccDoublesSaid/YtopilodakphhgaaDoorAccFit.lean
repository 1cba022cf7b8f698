/- (*Acc).fit: too great a real is bad. -/
import Derived.Test.YtopilodakphhgaaDoorAccSize
namespace Go.Proofs.YtopilodakphhgaaDoor
set_option linter.unusedVariables false
set_option linter.unusedSimpArgs false
open Go Go.RowKit
/-- Kept, or bad. -/
def FitAt (w : World) (b X : Nat) : Prop := (absX X < LIM → AccAt w b X false) ∧ (LIM ≤ absX X → AccAt w b 0 true)
theorem AccAt.below {w w1 : World} {b X : Nat} {bad : Bool} (h : AccAt w b X bad) {B : Nat} (hb : b < B) (hw : Below B w w1) : AccAt w1 b X bad := (hw.block b hb).trans h
theorem AccAt.lt {w : World} {b X : Nat} {bad : Bool} (h : AccAt w b X bad) : b < w.heap.size := by
  by_cases hb : b < w.heap.size
  · exact hb
  · unfold AccAt at h; rw [Array.getElem?_eq_none (by omega)] at h; cases h
theorem grown_of_below {w w1 : World} {row : Option Nat} (h : Below w.heap.size w w1) : w.grownBy w1 row := ⟨h.os, h.tape, h.output, h.size, fun k hk _ => h.block k hk⟩
theorem grown_trans {w w1 w2 : World} {row : Option Nat} (h : w.grownBy w1 row) (h2 : w1.grownBy w2 row) : w.grownBy w2 row :=
  ⟨h2.os.trans h.os, h2.tape.trans h.tape, h2.output.trans h.output, Nat.le_trans h.size h2.size, fun k hk hr => (h2.block k (Nat.lt_of_lt_of_le hk h.size) hr).trans (h.block k hk hr)⟩
theorem grown_drew {w w1 : World} {row : Option Nat} (h : w.grownBy w1 row) : w.grownBy w1.drew row := ⟨h.os, h.tape, h.output, h.size, h.block⟩
theorem grown_drewN {w w1 : World} {row : Option Nat} (h : w.grownBy w1 row) (n : Nat) : w.grownBy (w1.drewN n) row := ⟨h.os, h.tape, h.output, h.size, h.block⟩
theorem grown_setRow (w : World) (g : Nat) (c : Array Value) : w.grownBy (w.setRow g c) (some g) := ⟨rfl, rfl, rfl, by simp, fun k _ hk => setRow_other _ _ _ _ (fun e => hk (by rw [e]))⟩
set_option maxRecDepth 100000
theorem acc_one (X : Nat) (b : Bool) : (accCells X b).all (·.oneCell') = true :=
  Array.all_eq_true_iff_forall_mem.2 (fun v hv => by
    have : v ∈ wordCells 76 X ∨ v = Value.bool b := by simpa [accCells] using hv
    rcases this with h | rfl
    · exact wordCells_one 76 X v h
    · rfl)
theorem info_acc (X : Nat) (b : Bool) : (Tryd.prog.info? 62).map (·.size) = some (accCells X b).size := by rw [accCells_size]; exact Tryd.infoAcc
theorem acc_sizes (X Y : Nat) (b c : Bool) : (accCells X b).size = (accCells Y c).size := by rw [accCells_size, accCells_size]
set_option maxHeartbeats 1000000 in
theorem fit_any (w : World) (b X : Nat) (h : AccAt w b X false) (hX : X < TOP) :
    Calls Tryd.prog 32 #[.pointer (some ⟨b, 0, none⟩)] w fun e w' => e = .returned (.tuple #[]) ∧ FitAt w' b X ∧ w.grownBy w' (some b) := by
  have hb := h.lt
  have hz60 := (zero_of_info zeros76).1
  have hY := absX_lt X hX
  have hfw := Lib.hid (fit_words _ hY)
  go_enter Tryd.func32, Tryd.ntmps32
  go_wp2_with fail
  refine (size_any w b X false h hX hb).mono ?_
  rintro e w1 ⟨rfl, hb1⟩
  have h1 := h.below hb hb1
  have hs1 := hb1.size
  have hg1 : w.grownBy w1 (some b) := grown_of_below hb1
  generalize hYY : absX X = Y at *
  have HYY := Lib.hid hYY
  clear hYY h hb1
  go_wp2_with (refine wpList_store_last rfl 60 (.tmp 2) (.tmp 6) rfl w1.heap.size (arrCells 0) (arrCells Y) rfl rfl rfl (info_arr _) (arr_sizes _ _) (arrCells_one Y) ?_)
  have hc4 := arrCells_get Y 74 (by decide)
  have hc5 := arrCells_get Y 75 (by decide)
  have hl4 := wd_le Y 74
  have hl5 := wd_le Y 75
  go_loop [3] (fun i => (i = .int .i64 74) ∨ (i = .int .i64 75 ∧ wd Y 74 / 68719476736 = 0) ∨ (i = .int .i64 76 ∧ wd Y 74 / 68719476736 = 0 ∧ wd Y 75 = 0)) (fun i => 76 - (intOf i).toNat)
  case atStart => exact Or.inl rfl
  case round =>
    rcases hrel with rfl | ⟨rfl, hz⟩ | ⟨rfl, hz, hz5⟩
    · by_cases hz : (wd Y 74 : Int) / 68719476736 = 0
      · have hq : ((wd Y 74 : Int) / 68719476736 != 0) = false := by rw [bne_eq_false_iff_eq]; exact hz
        have hz' : wd Y 74 / 68719476736 = 0 := by omega
        have Hz := Lib.hid hz'
        clear hz hz'
        go_wp2_with fail
        go_round
        case rel => exact Or.inr (Or.inl ⟨rfl, Hz.out⟩)
        case measure => decide
      · have hq : ((wd Y 74 : Int) / 68719476736 != 0) = true := by rw [bne_iff_ne]; exact hz
        have Hn := Lib.hid (show ¬ Y < LIM from fun hlt => hz (by have := (hfw.out.1 hlt).1; omega))
        clear hz
        go_wp2_with (refine wpList_store_row rfl 62 (.tmp 22) (.tmp 21) rfl b (accCells 0 true) rfl (by kernel_rfl) 62 (accCells X false) (h1.alloc _) (info_acc _ _) (acc_sizes _ _ _ _) (acc_one _ _) ?_)
        refine bodyPost_ret (results_none rfl _ _ _) rfl ?_
        exact ⟨rfl, ⟨fun hlt => absurd hlt (by rw [HYY.out]; exact Hn.out), fun _ => setRow_heap _ _ (accCells X false) _ _ _ (h1.alloc _)⟩, grown_trans (grown_trans hg1 (World.grownBy_alloc _ _ _)) (grown_setRow _ _ _)⟩
    · have Hz := Lib.hid hz
      clear hz
      by_cases hz : (wd Y 75 : Int) = 0
      · have hq : ((wd Y 75 : Int) != 0) = false := by rw [bne_eq_false_iff_eq]; exact hz
        have hz' : wd Y 75 = 0 := by omega
        have Hz5 := Lib.hid hz'
        clear hz hz'
        go_wp2_with fail
        go_round
        case rel => exact Or.inr (Or.inr ⟨rfl, Hz.out, Hz5.out⟩)
        case measure => decide
      · have hq : ((wd Y 75 : Int) != 0) = true := by rw [bne_iff_ne]; exact hz
        have Hn := Lib.hid (show ¬ Y < LIM from fun hlt => hz (by have := (hfw.out.1 hlt).2; omega))
        clear hz
        go_wp2_with (refine wpList_store_row rfl 62 (.tmp 22) (.tmp 21) rfl b (accCells 0 true) rfl (by kernel_rfl) 62 (accCells X false) (h1.alloc _) (info_acc _ _) (acc_sizes _ _ _ _) (acc_one _ _) ?_)
        refine bodyPost_ret (results_none rfl _ _ _) rfl ?_
        exact ⟨rfl, ⟨fun hlt => absurd hlt (by rw [HYY.out]; exact Hn.out), fun _ => setRow_heap _ _ (accCells X false) _ _ _ (h1.alloc _)⟩, grown_trans (grown_trans hg1 (World.grownBy_alloc _ _ _)) (grown_setRow _ _ _)⟩
    · have Hz := Lib.hid hz
      have Hz5 := Lib.hid hz5
      clear hz hz5
      go_wp2_with fail
      go_end0
      exact ⟨rfl, ⟨fun _ => h1.alloc _, fun hle => absurd (hfw.out.2 ⟨Hz.out, Hz5.out⟩) (by rw [← HYY.out]; exact Nat.not_lt.2 hle)⟩, grown_trans hg1 (World.grownBy_alloc _ _ _)⟩
end Go.Proofs.YtopilodakphhgaaDoor
