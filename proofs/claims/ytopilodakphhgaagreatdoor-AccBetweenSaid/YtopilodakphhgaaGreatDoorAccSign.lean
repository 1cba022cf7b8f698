/- (*Acc).Sign, Copy: what an Acc tells of itself. -/
import Derived.Test.YtopilodakphhgaaGreatDoorAccProds
import Derived.ChangeKeysEq
import Derived.Laws.StructEq
namespace Go.Proofs.YtopilodakphhgaaGreatDoor
set_option linter.unusedVariables false
set_option linter.unusedSimpArgs false
open Go Go.RowKit
set_option maxRecDepth 100000
theorem run_part (X j : Nat) (hj : j < 76) (w : World) : (part 31 (wordCells 76 X).toArray j).run Tryz.prog w = .ok (.int .u64 (wd X j : Nat)) w := by
  have hc : ((wordCells 76 X).toArray)[j]? = some (.int .u64 (wd X j : Nat)) := arrCells_get X j hj
  have ha : (isAgg 31).run Tryz.prog w = .ok false w := by kernel_rfl
  unfold part
  rw [Sem.run_bind, ha]
  simp only [Result.andThen_ok, Bool.false_eq_true, if_false, hc, Sem.run_pure]
theorem run_items (d X Y : Nat) (w : World) (is : List Nat) (h : ∀ j ∈ is, j < 76) : (Op.eqItems (d + 1) 31 1 (wordCells 76 X).toArray (wordCells 76 Y).toArray is).run Tryz.prog w = .ok (is.all fun j => wd X j == wd Y j) w := by
  induction is with
  | nil => rfl
  | cons j is ih =>
    have hj := h j (List.mem_cons_self)
    have ih := ih (fun i hi => h i (List.mem_cons_of_mem _ hi))
    have he := run_equalIn_int (P := Tryz.prog) w d 31 .u64 .u64 (wd X j : Nat) (wd Y j : Nat) Tryz.underlying31
    simp only [Op.eqItems, Sem.run_bind, Nat.mul_one, run_part X j hj w, run_part Y j hj w, Result.andThen_ok, he, List.all_cons]
    by_cases hq : wd X j = wd Y j
    · have e1 : (((wd X j : Nat) : Int) == ((wd Y j : Nat) : Int)) = true := by rw [beq_iff_eq, hq]
      have e2 : (wd X j == wd Y j) = true := by rw [beq_iff_eq, hq]
      rw [e1, e2]
      simpa using ih
    · have e1 : (((wd X j : Nat) : Int) == ((wd Y j : Nat) : Int)) = false := by rw [beq_eq_false_iff_ne]; omega
      have e2 : (wd X j == wd Y j) = false := by rw [beq_eq_false_iff_ne]; exact hq
      rw [e1, e2]
      simp
theorem words_zero (n X : Nat) (h : ∀ j, j < n → wd X j = 0) : X % B64 ^ n = 0 := by
  induction n with
  | zero => rw [Nat.pow_zero, Nat.mod_one]
  | succ n ih => rw [wd_add, ih (fun j hj => h j (by omega)), h n (by omega), Nat.zero_mul]
theorem all_zero (X : Nat) (hX : X < TOP) : ((List.range 76).all fun j => wd X j == wd 0 j) = (X == 0) := by
  rw [Bool.eq_iff_iff, List.all_eq_true, beq_iff_eq]
  constructor
  · intro h
    have := words_zero 76 X (fun j hj => by have := h j (List.mem_range.2 hj); rw [wd_zero, beq_iff_eq] at this; exact this)
    have hX' : X < B64 ^ 76 := hX
    rwa [Nat.mod_eq_of_lt hX'] at this
  · rintro rfl j _
    rw [beq_iff_eq]
theorem cells_u64 : Tryz.prog.cellsOf 31 = 1 := by kernel_rfl
theorem eqg60 : Tryz.prog.eqGuardType Tryz.prog.depth 61 = false := by kernel_rfl
theorem zeros_lit : Tryz.zeroCells61 = (wordCells 76 0).toArray := by kernel_rfl
theorem run_eq76 (X : Nat) (hX : X < TOP) (w : World) : (Op.equalIn 10000 61 (.agg (wordCells 76 X).toArray) (.agg Tryz.zeroCells61)).run Tryz.prog w = .ok (X == 0) w := by
  cases hi : Tryz.prog.info? 31 with
  | none => exact absurd hi (by have : (Tryz.prog.info? 31).isSome = true := by kernel_rfl
                                intro e; rw [e] at this; cases this)
  | some i =>
    rw [zeros_lit, run_equalIn_array w 9999 _ _ Tryz.underlying61 hi, cells_u64]
    have := run_items 9998 X 0 w (List.range 76) (fun j hj => List.mem_range.1 hj)
    rw [all_zero X hX] at this
    exact this
/-- What Sign tells of an Acc's words. -/
def signW (X : Nat) : Int := if X = 0 then 0 else if isNeg X = true then -1 else 1
set_option maxHeartbeats 1000000 in
theorem sign_words (w : World) (b X : Nat) (h : AccAt w b X false) (hX : X < TOP) :
    Calls Tryz.prog 30 #[.pointer (some ⟨b, 0, none⟩)] w fun e w' => e = .returned (.int .i64 (signW X)) ∧ w = w' := by
  have hb1 := h.bad
  have hr := h.range
  have he := run_eq76 X hX
  have hg := eqg60
  by_cases h0 : X = 0
  · have hz : (X == 0) = true := by rw [beq_iff_eq]; exact h0
    have hs : signW X = 0 := if_pos h0
    have HS := Lib.hid hs
    clear h0 hs
    go_enter Tryz.func30, Tryz.ntmps30
    go_wp2_with (refine wpList_load_range rfl 61 (.tmp 11) rfl b 0 rfl (wordCells 76 X) _ hr Tryz.underlying61 rfl (info_words _) ?_)
    go_ret
    rw [HS.out]
    exact ⟨rfl, rfl⟩
  · have hz : (X == 0) = false := by rw [beq_eq_false_iff_ne]; exact h0
    have hs : signW X = if isNeg X = true then -1 else 1 := if_neg h0
    have HS := Lib.hid hs
    clear h0 hs
    go_enter Tryz.func30, Tryz.ntmps30
    go_wp2_with (refine wpList_load_range rfl 61 (.tmp 11) rfl b 0 rfl (wordCells 76 X) _ hr Tryz.underlying61 rfl (info_words _) ?_)
    refine (neg_any _ b X false h hX).mono ?_
    rintro e w' ⟨rfl, rfl⟩
    cases hn : isNeg X with
    | true =>
      have HN := Lib.hid hn
      clear hn
      go_wp2_with fail
      go_ret
      rw [HS.out, if_pos HN.out]
      exact ⟨rfl, rfl⟩
    | false =>
      have HN := Lib.hid hn
      clear hn
      go_wp2_with fail
      go_ret
      rw [HS.out, if_neg (by rw [HN.out]; decide)]
      exact ⟨rfl, rfl⟩
theorem sign_bad (w : World) (b X : Nat) (h : AccAt w b X true) :
    Calls Tryz.prog 30 #[.pointer (some ⟨b, 0, none⟩)] w fun e w' => e = .returned (.int .i64 0) ∧ w = w' := by
  have hb1 := h.bad
  go_enter Tryz.func30, Tryz.ntmps30
  go_wp2_with fail
  go_ret
  exact ⟨rfl, rfl⟩
def signS : Option Int → Int
  | none => 0
  | some z => z.sign
theorem signW_enc (z : Int) (h2 : 2 * z.natAbs < TOP) : signW (enc z) = z.sign := by
  unfold signW
  rw [isNeg_enc z h2]
  by_cases h : z < 0
  · rw [if_neg (by rw [enc_neg z h h2]; omega), if_pos (decide_eq_true h), Int.sign_eq_neg_one_of_neg h]
  · by_cases h0 : z = 0
    · subst h0
      rw [if_pos (by rw [enc_pos 0 (by omega) h2]; rfl)]
      rfl
    · rw [if_neg (by rw [enc_pos z (by omega) h2]; omega), if_neg (by rw [decide_eq_false h]; decide), Int.sign_eq_one_of_pos (by omega)]
theorem sign_any (w : World) (b : Nat) (s : Option Int) (h : AccIs w b s) :
    Calls Tryz.prog 30 #[.pointer (some ⟨b, 0, none⟩)] w fun e w' => e = .returned (.int .i64 (signS s)) ∧ w = w' := by
  cases s with
  | none => exact sign_bad w b 0 h
  | some z =>
    have ht := TOP_LIM
    have h2 := h.2
    have := sign_words w b (enc z) h.1 (enc_lt z)
    rw [signW_enc z (by omega)] at this
    exact this
theorem zerosAcc : (Tryz.prog.info? 63).map (fun i => (i.zero, i.size)) = some (some (.agg (accCells 0 false)), 77) := by kernel_rfl
end Go.Proofs.YtopilodakphhgaaGreatDoor
