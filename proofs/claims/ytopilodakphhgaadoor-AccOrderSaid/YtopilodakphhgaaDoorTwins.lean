/- ambitlaw3.twins: two Accs of one real tell the same. -/
import Derived.Test.YtopilodakphhgaaDoorTurned
import Derived.Test.YtopilodakphhgaaDoorAccCmp
namespace Go.Proofs.YtopilodakphhgaaDoor
set_option linter.unusedVariables false
set_option linter.unusedSimpArgs false
open Go Go.RowKit
set_option maxRecDepth 100000
set_option maxHeartbeats 2000000 in
theorem twins_any (w : World) (b c : Nat) (x : Int) (h : AccIs w b (some x)) (h' : AccIs w c (some x)) :
    Calls Tryd.prog 25 #[.pointer (some ⟨b, 0, none⟩), .pointer (some ⟨c, 0, none⟩)] w fun e w' => e = .returned (.bool true) ∧ Below w.heap.size w w' := by
  have hc := cmp_any w b c (some x) (some x) h h'
  rw [show cmpS (some x) (some x) = (0, true) by show ((x - x).sign, true) = (0, true); rw [Int.sub_self]; rfl] at hc
  go_enter Tryd.func25, Tryd.ntmps25
  go_wp2_with fail
  refine hc.mono ?_
  rintro e w1 ⟨rfl, hb1⟩
  have h1 := h.below h.lt hb1
  have h1' := h'.below h'.lt hb1
  have hs := sign_any w1 b _ h1
  have hs' := sign_any w1 c _ h1'
  have hd := badS_any w1 b _ h1
  have hd' := badS_any w1 c _ h1'
  clear hc h h'
  generalize signS (some x) = sg at *
  go_wp2_with fail
  refine hs.mono ?_
  rintro e w2 ⟨rfl, rfl⟩
  go_wp2_with fail
  refine hs'.mono ?_
  rintro e w2 ⟨rfl, rfl⟩
  go_wp2_with fail
  refine hd.mono ?_
  rintro e w2 ⟨rfl, rfl⟩
  go_wp2_with fail
  refine hd'.mono ?_
  rintro e w2 ⟨rfl, rfl⟩
  go_wp2_with fail
  clear hs hs' hd hd'
  go_loopw [7] (fun i wr => ∃ d : Nat, d ≤ 3 ∧ i = .int .i64 (d : Nat) ∧ AccIs wr b (some x) ∧ AccIs wr c (some x) ∧ Below w.heap.size w wr) (fun i _ => 3 - (intOf i).toNat)
  case atStart => exact ⟨0, by omega, rfl, h1, h1', hb1⟩
  case round =>
    obtain ⟨d, hd, rfl, ha, ha', hb⟩ := hrel
    clear h1 h1' hb1
    by_cases hlt : d < 3
    · have hlt' : (d : Int) < 3 := by omega
      have hr := round_any wr b (d : Int) _ ha (by omega) (by omega)
      have hr' : ∀ w2 : World, Below wr.heap.size wr w2 → _ := fun w2 h2 => round_any w2 c (d : Int) _ (ha'.below ha'.lt h2) (by omega) (by omega)
      generalize roundS (d : Int) (some x) = res at *
      have hbt := bits_nat res.1
      go_wp2_with fail
      refine hr.mono ?_
      rintro e w2 ⟨rfl, hb2⟩
      have hr2 := hr' w2 hb2
      have ha2 := ha.below ha.lt hb2
      have ha2' := ha'.below ha'.lt hb2
      have hbb := hb.trans (hb2.mono hb.size)
      clear hr hr' ha ha' hb hb2
      go_wp2_with fail
      refine hr2.mono ?_
      rintro e w3 ⟨rfl, hb3⟩
      have ha3 := ha2.below ha2.lt hb3
      have ha3' := ha2'.below ha2'.lt hb3
      have hb3b := hbb.trans (hb3.mono hbb.size)
      clear hr2 ha2 ha2' hbb hb3
      go_wp2_with fail
      refine (hbt _).mono ?_
      rintro e w4 ⟨rfl, rfl⟩
      go_wp2_with fail
      refine (hbt _).mono ?_
      rintro e w5 ⟨rfl, rfl⟩
      go_wp2_with fail
      go_roundw
      case rel => exact ⟨d + 1, by omega, by go_num, ha3, ha3', hb3b⟩
      case measure => simp [intOf]; omega
    · obtain rfl : d = 3 := by omega
      go_wp2_with fail
      go_ret
      exact ⟨rfl, hb⟩
end Go.Proofs.YtopilodakphhgaaDoor
