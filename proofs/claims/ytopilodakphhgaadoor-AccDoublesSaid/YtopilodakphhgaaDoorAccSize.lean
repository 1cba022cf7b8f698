/- (*Acc).size: the real without its sign, as words, by value. -/
import Derived.Test.YtopilodakphhgaaDoorAccBase
import Derived.Test.YtopilodakphhgaaDoorAccLaws
namespace Go.Proofs.YtopilodakphhgaaDoor
set_option linter.unusedVariables false
set_option linter.unusedSimpArgs false
open Go Go.RowKit
set_option maxRecDepth 100000
theorem zeros76 : (Tryd.prog.info? 60).map (fun i => (i.zero, i.size)) = some (some (.agg (arrCells 0)), 76) := by kernel_rfl
theorem size_done (X : Nat) (hX : X < TOP) : arrCells (mix 76 (TOP - X) X) = arrCells (TOP - X) := by
  refine arrCells_ext fun j hj => ?_
  rw [wd_mix_lt _ _ _ _ hj]
theorem size_below (w : World) (a b c : Array Value) : Below w.heap.size w (((w.alloc (Obj.cells a 60)).alloc (Obj.cells b 60)).setRow w.heap.size c) :=
  ⟨rfl, rfl, rfl, by simp; omega, fun k hk => by rw [setRow_other _ _ _ _ (by omega), heap_alloc_old _ _ (by simp; omega), heap_alloc_old _ _ hk]⟩
set_option maxHeartbeats 1000000 in
theorem size_any (w : World) (b X : Nat) (bad : Bool) (h : AccAt w b X bad) (hX : X < TOP) (hb : b < w.heap.size) :
    Calls Tryd.prog 45 #[.pointer (some ⟨b, 0, none⟩)] w fun e w' => e = .returned (.agg (arrCells (absX X))) ∧ Below w.heap.size w w' := by
  have hr := h.range
  have hz60 := (zero_of_info zeros76).1
  go_enter Tryd.func45, Tryd.ntmps45
  go_wp2_with (first
    | (refine wpList_load_mid rfl 60 (.tmp 8) rfl b 0 rfl (wordCells 76 X) _ (range_alloc hr _ hb) Tryd.underlying60 rfl (info_words _) ?_)
    | (refine wpList_store_last rfl 60 (.tmp 3) (.tmp 9) rfl (w.heap.size + 1) (arrCells 0) (arrCells X) (by simp) rfl rfl (info_arr _) (arr_sizes _ _) (arrCells_one X) ?_))
  refine (neg_any _ b X bad ((h.alloc _).alloc _) hX).mono ?_
  rintro e w' ⟨rfl, rfl⟩
  cases hn : isNeg X with
  | false =>
    go_wp2_with (first
      | (refine wpList_load_last rfl 60 (.tmp 3) rfl (w.heap.size + 1) (arrCells X) _ (by simp) rfl Tryd.underlying60 rfl (info_arr _) ?_)
      | (refine wpList_store_row rfl 60 (.tmp 2) (.tmp 26) rfl w.heap.size (arrCells X) rfl rfl 60 (arrCells 0) (heap_alloc2_old w _ _) (info_arr _) (arr_sizes _ _) (arrCells_one X) ?_))
    refine bodyPost_ret (v := .agg (arrCells X)) (results_cell_row rfl _ _ w.heap.size 60 (arrCells X) (0, 0) _ rfl (setRow_heap _ _ (arrCells 0) _ _ _ (heap_alloc2_old w _ _)) Tryd.underlying60 rfl (info_arr _)) rfl ⟨?_, ?_⟩
    · rw [absX, hn]; rfl
    · exact size_below w _ _ _
  | true =>
    have hab : absX X = TOP - X := by rw [absX, hn]; rfl
    have Hab := Lib.hid hab
    clear hab hn
    go_wp2_with fail
    go_loopw [4, 12] (fun c i wr => ∃ k : Nat, k ≤ 76 ∧ i = .int .i64 k ∧ c = .int .u64 (borrow 0 X k : Nat) ∧ wr = (w.alloc (Obj.cells (arrCells 0) 60)).alloc (Obj.cells (arrCells (mix k (TOP - X) X)) 60)) (fun _ i _ => 76 - (intOf i).toNat)
    case atStart => exact ⟨0, by omega, rfl, by rw [borrow_zero]; rfl, by rw [mix_zero]⟩
    case round =>
      obtain ⟨k, hk, rfl, rfl, rfl⟩ := hrel
      by_cases hlt : k < 76
      · have hc : (arrCells (mix k (TOP - X) X))[k]? = some (.int .u64 (wd X k : Nat)) := by rw [arrCells_get _ _ hlt, wd_mix_ge _ _ _ _ (Nat.le_refl k)]
        have hw := sub_word 0 X k 76 hlt TOP_pos hX
        rw [wd_zero, show 0 + B64 ^ 76 - X = TOP - X from by rw [Nat.zero_add]; rfl] at hw
        have hbl := borrow_le 0 X k
        have hs := run_sub_zero (wd X k) (borrow 0 X k) _ _ hbl hw.1 hw.2
        have hstep := arr_step k (TOP - X) X _ rfl hlt
        clear hw
        go_wp2_with fail
        go_roundw
        case rel => exact ⟨k + 1, by omega, by go_num, rfl, rfl⟩
        case measure => simp [intOf]; omega
      · obtain rfl : k = 76 := by omega
        go_wp2_with (first
          | (refine wpList_load_last rfl 60 (.tmp 3) rfl (w.heap.size + 1) (arrCells (mix 76 (TOP - X) X)) _ (by simp) rfl Tryd.underlying60 rfl (info_arr _) ?_)
          | (refine wpList_store_row rfl 60 (.tmp 2) (.tmp 26) rfl w.heap.size (arrCells (mix 76 (TOP - X) X)) rfl rfl 60 (arrCells 0) (heap_alloc2_old w _ _) (info_arr _) (arr_sizes _ _) (arrCells_one _) ?_))
        refine bodyPost_ret (v := .agg (arrCells (mix 76 (TOP - X) X))) (results_cell_row rfl _ _ w.heap.size 60 (arrCells (mix 76 (TOP - X) X)) (0, 0) _ rfl (setRow_heap _ _ (arrCells 0) _ _ _ (heap_alloc2_old w _ _)) Tryd.underlying60 rfl (info_arr _)) rfl ⟨?_, ?_⟩
        · rw [Hab.out, size_done X hX]
        · exact size_below w _ _ _
end Go.Proofs.YtopilodakphhgaaDoor
