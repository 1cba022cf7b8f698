/-
  ambitref10.empty, Check.
-/
import Derived.Test.YtpfbgenefjhcjaaGreatDoorPZoLst
import Derived.Test.YtpfbgenefjhcjaaGreatDoorPZoReal2
namespace Go.Proofs.YtpfbgenefjhcjaaGreatDoor
set_option linter.unusedVariables false
set_option linter.unusedSimpArgs false
open Go Go.RowKit
set_option maxRecDepth 100000
set_option maxHeartbeats 2000000 in
theorem empty_walk (w : World) (A B C D : Option Addr) (kA kB kC kD la lb lc ld : Nat) (n : Int) (bad : Bool) (ba : la ≤ 140737488355328) (bb : lb ≤ 140737488355328) (bc : lc ≤ 140737488355328) (bd : ld ≤ 140737488355328) :
    Calls Tryz.prog 63 #[.agg #[.int .i64 n, .slice A la kA, .slice B lb kB, .slice C lc kC, .slice D ld kD, .bool bad]] w fun e w' => e = .returned (.bool (lostB n la lb lc ld bad)) ∧ Below w.heap.size w w' := by
  have HB := Lib.hid (below_alloc w (.cells #[.int .i64 n, .slice A la kA, .slice B lb kB, .slice C lc kC, .slice D ld kD, .bool bad] 30))
  have key : ∀ x, lostB n la lb lc ld bad = x → Hid (∀ e, e = .returned (.bool x) → e = Ending.returned (.bool (lostB n la lb lc ld bad))) := fun x h => Lib.hid (by rw [h]; exact fun e h => h)
  cases bad with
  | false =>
    have HK := key false (by simp [lostB])
    clear key
    go_enter Tryz.func63, Tryz.ntmps63
    go_wp2_with fail
    go_ret
    exact ⟨HK.out _ rfl, HB.out⟩
  | true =>
    by_cases n0 : 0 ≤ n
    · by_cases n2 : n ≤ 256
      · have HK := key ((la : Int) + lb + lc + ld == 0) (by
          by_cases h0 : (la : Int) + lb + lc + ld = 0
          · have : la = 0 ∧ lb = 0 ∧ lc = 0 ∧ ld = 0 := by omega
            obtain ⟨rfl, rfl, rfl, rfl⟩ := this
            simp [lostB, n0, n2]
          · rw [beq_eq_false_iff_ne.2 h0]
            rcases Nat.eq_zero_or_pos la with rfl | h1
            · rcases Nat.eq_zero_or_pos lb with rfl | h2
              · rcases Nat.eq_zero_or_pos lc with rfl | h3
                · have : ld ≠ 0 := by omega
                  simp [lostB, this]
                · have : lc ≠ 0 := by omega
                  simp [lostB, this]
              · have : lb ≠ 0 := by omega
                simp [lostB, this]
            · have : la ≠ 0 := by omega
              simp [lostB, this])
        clear key
        go_enter Tryz.func63, Tryz.ntmps63
        go_wp2_with fail
        go_ret
        exact ⟨HK.out _ rfl, HB.out⟩
      · have HK := key false (by simp [lostB, n2])
        have n2' : decide (n ≤ 256) = false := by simp; omega
        clear key n2
        go_enter Tryz.func63, Tryz.ntmps63
        go_wp2_with fail
        go_ret
        exact ⟨HK.out _ rfl, HB.out⟩
    · have HK := key false (by simp [lostB, n0])
      have n0' : decide (0 ≤ n) = false := by simp; omega
      clear key n0
      go_enter Tryz.func63, Tryz.ntmps63
      go_wp2_with fail
      go_ret
      exact ⟨HK.out _ rfl, HB.out⟩
set_option maxHeartbeats 4000000 in
theorem Check10_any (w : World) (v : Value) (z : ZD) (h : UIs w v z) (hk : ZOk z) :
    Calls Tryz.prog 20 #[v] w fun e w' => e = .returned (.int .i64 (chkD z)) ∧ Below w.heap.size w w' := by
  obtain ⟨A, B, C, D, kA, kB, kC, kD, rfl, hc⟩ := h
  have hb1 := below_alloc w (.cells #[.int .i64 z.n, .slice A z.c.length kA, .slice B z.ids.length kB, .slice C z.g.length kC, .slice D z.r.length kD, .bool z.bad] 30)
  have hx := heap_alloc_new w (.cells #[.int .i64 z.n, .slice A z.c.length kA, .slice B z.ids.length kB, .slice C z.g.length kC, .slice D z.r.length kD, .bool z.bad] 30)
  have hs1 := World.size_alloc w (.cells #[.int .i64 z.n, .slice A z.c.length kA, .slice B z.ids.length kB, .slice C z.g.length kC, .slice D z.r.length kD, .bool z.bad] 30)
  have hr := Reals_any _ _ z ⟨A, B, C, D, kA, kB, kC, kD, rfl, hc.below hb1⟩ hk
  have hlc := hk.lc
  have hlr := hk.lr
  have hli := hk.li
  have hlg := hk.lg
  unfold MAXF at hlc hlr hli
  unfold MAXG at hlg
  have hem := fun w1 => empty_walk w1 A B C D kA kB kC kD z.c.length z.ids.length z.g.length z.r.length z.n z.bad (by omega) (by omega) (by omega) (by omega)
  have hlost : lostB z.n z.c.length z.ids.length z.g.length z.r.length z.bad = lostD z := rfl
  rw [hlost] at hem
  unfold chkD
  unfold zval at hr ⊢
  clear hlost hlc hlr hli hlg
  cases hg : goodD z with
  | true =>
    rw [Bool.true_or, if_pos rfl]
    clear hem
    go_enter Tryz.func20, Tryz.ntmps20
    go_wp2_with fail
    refine hr.mono ?_
    rintro e w1 (⟨_, v', rfl, ⟨A', B', C', D', kA', kB', kC', kD', rfl, _⟩, hb⟩ | ⟨hg', rfl, hb⟩)
    · have hb2 := hb1.trans (hb.mono hb1.size)
      have HB := Lib.hid (hb2.alloc hb2.size (.cells #[.int .i64 z.n, .slice A' z.c.length kA', .slice B' z.ids.length kB', .slice C' z.g.length kC', .slice D' z.r.length kD'] 61))
      unfold rval
      clear hr hx hb hb2 hb1
      go_wp2_with fail
      go_ret
      exact ⟨rfl, HB.out⟩
    · rw [hg] at hg'
      cases hg'
  | false =>
    rw [Bool.false_or]
    generalize lostD z = lz at hem ⊢
    go_enter Tryz.func20, Tryz.ntmps20
    go_wp2_with fail
    refine hr.mono ?_
    rintro e w1 (⟨hg', v', rfl, _, hb⟩ | ⟨_, rfl, hb⟩)
    · rw [hg] at hg'
      cases hg'
    · have hb2 := hb1.trans (hb.mono hb1.size)
      have hsz := hb.size
      have g0 := (hb.block w.heap.size (by omega)).trans hx
      have hb3 := hb2.alloc hb2.size (.cells #[.int .i64 0, .slice none 0 0, .slice none 0 0, .slice none 0 0, .slice none 0 0] 61)
      have k0 : (w1.alloc (.cells #[.int .i64 0, .slice none 0 0, .slice none 0 0, .slice none 0 0, .slice none 0 0] 61)).heap[w.heap.size]? = _ := (Below.heap_alloc _ _ _ (by omega)).trans g0
      have hem1 := hem (w1.alloc (.cells #[.int .i64 0, .slice none 0 0, .slice none 0 0, .slice none 0 0, .slice none 0 0] 61))
      obtain ⟨x0, x1, x2, x3, x4, x5⟩ := cells6 k0
      unfold noReal
      clear hr hx hb hem g0 k0
      go_wp2_with fail
      refine hem1.mono ?_
      rintro e w3 ⟨rfl, hb4⟩
      clear hem1 x0 x1 x2 x3 x4 x5
      have HB := Lib.hid (hb3.trans (hb4.mono hb3.size))
      cases lz with
      | true =>
        go_wp2_with fail
        go_ret
        exact ⟨rfl, HB.out⟩
      | false =>
        go_wp2_with fail
        go_ret
        exact ⟨rfl, HB.out⟩
end Go.Proofs.YtpfbgenefjhcjaaGreatDoor
