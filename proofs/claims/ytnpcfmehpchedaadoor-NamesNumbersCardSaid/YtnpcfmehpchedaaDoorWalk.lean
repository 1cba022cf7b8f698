/- NamesNumbers returns true and leaves what was there as it was, where the table of the powers of ten reads as it is laid. -/
import Derived.Test.YtnpcfmehpchedaaDoorErr
import Derived.Test.YtnpcfmehpchedaaDoorLists
import Derived.WalkKit
import Derived.WalkSpells
import Derived.WalkLawsBesides
import Derived.BigQuiet
import Derived.Deep.QuietTactic
import Derived.Laws.AppendOwn
import Derived.Lib.SmallJoins
namespace Go.Proofs.YtnpcfmehpchedaaDoor
open Go Go.RowKit
theorem Tryd.info25 : (Tryd.prog.info? 25).map (fun i => (i.zero, i.size, i.bytes)) = some (some (.agg #[(.int .i64 0), (.int .i64 0)]), 2, 16) := by kernel_rfl
theorem pairs_two (l : List Int) : (pairs l).length = l.length * 2 := by
  induction l with
  | nil => rfl
  | cons a t ih => simp only [pairs, List.flatMap_cons, List.length_append, List.length_cons, List.length_nil] at *; omega
theorem pairs_even (l : List Int) (i : Nat) (h : i < l.length) : (pairs l)[2 * i]? = some (.int .i64 l[i]) ∧ (pairs l)[2 * i + 1]? = some (.int .i64 l[i]) := by
  induction l generalizing i with
  | nil => simp at h
  | cons a t ih =>
    cases i with
    | zero => exact ⟨rfl, rfl⟩
    | succ i =>
      have := ih i (by simpa using h)
      have e : 2 * (i + 1) = 2 * i + 2 := by omega
      rw [e]
      simpa [pairs, List.flatMap_cons] using this
theorem pairs_app (a b : List Int) : pairs a ++ pairs b = pairs (a ++ b) := by simp [pairs]
def allL : List Int := errL ++ limL
theorem owned_errs (w : World) : ((w.alloc (.cells (pairs errL).toArray 25)).alloc (.cells (pairs limL).toArray 25)).ownsRow w.heap.size 25 2 (.slice (some ⟨w.heap.size, 0, none⟩) 36 36) 36 (pairs errL) := by
  refine World.ownsRow.alloc ?_ _
  refine ⟨rfl, .inr ⟨w.heap.size, 36, _, rfl, Nat.le_refl _, heap_alloc_new w _, Nat.le_refl _, by simp [maxLen], rfl, rfl⟩⟩
theorem owned_all {w1 : World} {B : Nat} {v : Value} (hown : w1.ownsRow B 25 2 v (36 + 39) (pairs errL ++ pairs limL)) :
    ∃ g cap, v = .slice (some ⟨g, 0, none⟩) 75 cap ∧ ∀ i, i < 75 → w1.cell? ⟨g, i * 2, none⟩ = some (.int .i64 (allL.getD i 0)) ∧ w1.cell? ⟨g, i * 2 + 1, none⟩ = some (.int .i64 (allL.getD i 0)) := by
  have hc := fun g => hown.cells (g := g)
  rcases hown.2 with ⟨_, h⟩ | ⟨g, cap, cur, rfl, _, _, _, _, _, _⟩
  · omega
  · refine ⟨g, cap, rfl, fun i hi => ?_⟩
    have h := hc g rfl
    rw [pairs_app] at h
    have hl : i < allL.length := hi
    have hp := pairs_even allL i hl
    have e : allL.getD i 0 = allL[i] := by simp [hl]
    have a1 := h _ _ hp.1
    have a2 := h _ _ hp.2
    rw [Addr.add_lit] at a1 a2
    rw [e, Nat.mul_comm i 2]
    exact ⟨by simpa using a1, by simpa using a2⟩
theorem cells_lim (w : World) : ∀ (j : Nat) (u : Value), (pairs limL)[j]? = some u → ((w.alloc (Obj.cells (pairs errL).toArray 25)).alloc (Obj.cells (pairs limL).toArray 25)).cell? ((⟨w.heap.size + 1, 0, none⟩ : Addr).add j) = some u := by
  intro j u h
  rw [Addr.add_lit]
  have hs : (w.alloc (Obj.cells (pairs errL).toArray 25)).heap.size = w.heap.size + 1 := by simp
  have := heap_alloc_new (w.alloc (Obj.cells (pairs errL).toArray 25)) (Obj.cells (pairs limL).toArray 25)
  rw [hs] at this
  simp only [World.cell?, this]
  simpa using h
theorem below_two {w w1 : World} (hg : ((w.alloc (Obj.cells (pairs errL).toArray 25)).alloc (Obj.cells (pairs limL).toArray 25)).grownBy w1 (Value.slice (some ⟨w.heap.size, 0, none⟩) 36 36).ownBlock) (n : Nat) : Below w.heap.size w (w1.drewN n) := by
  refine ⟨hg.os, hg.tape, hg.output, ?_, fun k hk => ?_⟩
  · have := hg.size
    simp at this
    show w.heap.size ≤ w1.heap.size
    omega
  · show w1.heap[k]? = _
    rw [hg.block k (by simp; omega) (by simp [Value.ownBlock]; omega), heap_alloc_old _ _ (by simp; omega), heap_alloc_old _ _ hk]
theorem tab_at {w w' : World} (htab : Lib.TabIs Tryd.prog w "internal/strconv.uint64pow10" .u64 Lib.pow10Tab) (hb : Below w.heap.size w w') : Lib.TabIs Tryd.prog w' "internal/strconv.uint64pow10" .u64 Lib.pow10Tab :=
  Joins.tab_stays (g := 1) (by kernel_rfl) htab hb (Nat.le_refl _)
theorem run_bits (b : Nat) (w : World) : Sem.run Tryd.prog (callFunc 10 #[.float .f64 b]) w = .ok (.value (.int .u64 b)) w := by kernel_rfl
theorem run_float (n : Int) (w : World) : Sem.run Tryd.prog (callFunc 11 #[.int .u64 n]) w = .ok (.value (.float .f64 n.toNat)) w := by kernel_rfl
set_option maxRecDepth 100000
set_option maxHeartbeats 1000000 in
theorem names_any (w : World) (htab : Lib.TabIs Tryd.prog w "internal/strconv.uint64pow10" .u64 Lib.pow10Tab) :
    Calls Tryd.prog 3 #[] w fun e w' => e = .returned (.bool true) ∧ Below w.heap.size w w' := by
  obtain ⟨i0, hi, hz0, hz1, hz2⟩ := info_parts Tryd.info25
  have hrb := run_bits
  have hrf := run_float
  go_enter Tryd.func3, Tryd.ntmps3
  go_wp2_with fail
  refine (errs_any _).mono ?_; rintro e w1 ⟨rfl, rfl⟩
  go_wp2_with fail
  refine (limits_any _).mono ?_; rintro e w1 ⟨rfl, rfl⟩
  go_wp2_with (at_builtin; refine wpList_append_own _ rfl (.tmp 3) (.tmp 4) 22 rfl w.heap.size 25 i0 (.agg #[(.int .i64 0), (.int .i64 0)]) 2 16 Tryd.underlying22 hi hz0 hz1 hz2 rfl (by decide) _ 36 _ rfl (owned_errs w) ⟨w.heap.size + 1, 0, none⟩ 39 39 (pairs limL) rfl rfl ?c1 ?c2 (by simp [maxLen]) (by decide) ?c5 ?_)
  case c1 => exact cells_lim w
  case c2 => decide
  case c5 => show w.heap.size ≤ _; simp; omega
  intro v w1 hown hg _
  obtain ⟨g, cap, rfl, hcell⟩ := owned_all hown
  go_wp2_with fail
  go_loopw [2] (fun i wr => ∃ k n : Nat, k ≤ 75 ∧ i = .int .i64 k ∧ wr = w1.drewN n) (fun i _ => 75 - (intOf i).toNat)
  case atStart => exact ⟨0, 0, by omega, rfl, rfl⟩
  case round =>
    obtain ⟨k, n, hk, rfl, rfl⟩ := hrel
    by_cases hlt : k < 75
    · have hc1 := (hcell k hlt).1
      have hc2 := (hcell k hlt).2
      clear hcell
      go_wp2_with fail
      go_quiet (fail)
      go_wp2_with fail
      go_roundw
      case rel => exact ⟨k + 1, _, by omega, by go_num, rfl⟩
      case measure => simp [intOf]; omega
    · clear hcell
      have hb : Below w.heap.size w (w1.drewN n) := below_two hg n
      go_wp2_with fail
      refine (error_any 202 [50, 48, 50] (by kernel_rfl) (by decide) (by omega) (by omega) _ ?ht).mono ?_
      case ht => exact tab_at htab hb
      rintro e w2 ⟨rfl, hb2⟩
      go_wp2_with fail
      refine (error_any 0 [48] (by kernel_rfl) (by decide) (by omega) (by omega) _ ?ht).mono ?_
      case ht => exact tab_at htab (hb.trans (hb2.mono hb.size))
      rintro e w3 ⟨rfl, hb3⟩
      go_wp2_with go_in
      go_ret
      exact ⟨rfl, (hb.trans (hb2.mono hb.size)).trans (hb3.mono (Nat.le_trans hb.size hb2.size))⟩
end Go.Proofs.YtnpcfmehpchedaaDoor
