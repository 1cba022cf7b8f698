/-
 ambitref10.empty, Check.
-/
import Derived.Test.YtpfbgenefjhcjaaGreatDoorPZoLst
import Derived.Test.YtpfbgenefjhcjaaGreatDoorPZoReal2
namespace Go.Proofs.YtpfbgenefjhcjaaGreatDoor
set_option linter.unusedVariables false
set_option linter.unusedSimpArgs false
open Go Go.RowKit
set_option maxRecDepth 100000
set_option maxHeartbeats 2000000 in
theorem empty_walk (w : World) (A B C D : Option Addr) (kA kB kC kD la lb lc ld : Nat) (n : Int) (bad : Bool) (ba : la ≤ 140737488355328) (bb : lb ≤ 140737488355328) (bc : lc ≤ 140737488355328) (bd : ld ≤ 140737488355328) :
  Calls Tryz.prog 63 #[.agg #[.int .i64 n, .slice A la kA, .slice B lb kB, .slice C lc kC, .slice D ld kD, .bool bad]] w fun e w' => e = .returned (.bool (lostB n la lb lc ld bad)) ∧ Below w.heap.size w w' := by
 have HB := Lib.hid (below_alloc w (.cells #[.int .i64 n, .slice A la kA, .slice B lb kB, .slice C lc kC, .slice D ld kD, .bool bad] 30))
 have key : ∀ x, lostB n la lb lc ld bad = x → Hid (∀ e, e = .returned (.bool x) → e = Ending.returned (.bool (lostB n la lb lc ld bad))) := fun x h => Lib.hid (by rw [h]; exact fun e h => h)
 cases bad with
 | false =>
  have HK := key false (by simp [lostB])
  clear key
  go_enter Tryz.func63, Tryz.ntmps63
  go_wp2_with fail
  go_ret
  exact ⟨HK.out _ rfl, HB.out⟩
 | true =>
  by_cases n0 : 0 ≤ n
  ·by_cases n2 : n ≤ 256
   ·have HK := key ((la : Int) + lb + lc + ld == 0) (by
     by_cases h0 : (la : Int) + lb + lc + ld = 0
     ·have : la = 0 ∧ lb = 0 ∧ lc = 0 ∧ ld = 0 := by omega
      obtain ⟨rfl, rfl, rfl, rfl⟩ := this
      simp [lostB, n0, n2]
     ·rw [beq_eq_false_iff_ne.2 h0]
      rcases Nat.eq_zero_or_pos la with rfl | h1
      ·rcases Nat.eq_zero_or_pos lb with rfl | h2
       ·rcases Nat.eq_zero_or_pos lc with rfl | h3
        ·have : ld ≠ 0 := by omega
         simp [lostB, this]
        ·have : lc ≠ 0 := by omega
         simp [lostB, this]
       ·have : lb ≠ 0 := by omega
        simp [lostB, this]
      ·have : la ≠ 0 := by omega
       simp [lostB, this])
    clear key
    go_enter Tryz.func63, Tryz.ntmps63
    go_wp2_with fail
    go_ret
    exact ⟨HK.out _ rfl, HB.out⟩
   ·have HK := key false (by simp [lostB, n2])
    have n2' : decide (n ≤ 256) = false := by simp; omega
    clear key n2
    go_enter Tryz.func63, Tryz.ntmps63
    go_wp2_with fail
    go_ret
    exact ⟨HK.out _ rfl, HB.out⟩
  ·have HK := key false (by simp [lostB, n0])
   have n0' : decide (0 ≤ n) = false := by simp; omega
   clear key n0
   go_enter Tryz.func63, Tryz.ntmps63
   go_wp2_with fail
   go_ret
   exact ⟨HK.out _ rfl, HB.out⟩
end Go.Proofs.YtpfbgenefjhcjaaGreatDoor
