/-
  Proved: ambitlaw10.ZonoNews returns true for every input, and its arguments read as they did before. No condition beyond the given row's own.
-/
import Derived.Test.YtpfbgenefjhcjaaGreatDoorRows
import Derived.Test.YtpfbgenefjhcjaaGreatDoorZoNews
import Derived.Test.YtpfbgenefjhcjaaGreatDoorPZoFrame
import Derived.WalkKit
import Derived.ProofKit
import Derived.OpenShut
import Derived.ChangeOld
import Derived.Below
import Derived.Clock
import Derived.SizedLaws
import Derived.Deep.Slices
namespace Go.Proofs.YtpfbgenefjhcjaaGreatDoor.zonoNews
open Go.ChangeShapes Go.WideShapes Go.ChangeAt Go.RowKit Go.Clock
set_option linter.unusedVariables false
theorem own : ownKnob Tryz.prog.godebug = none := by kernel_rfl
theorem laidOut : laidOutB Tryz.prog = true := by kernel_rfl
set_option maxRecDepth 100000 in
theorem lifted (os : Os) (started : os.Started) (H : Type) (enc : TypeId × Value → H) :
    ReturnsInHanded {} Tryz.checked os 8 .any (Rows.zonoNewsSpec.pre6 enc Tryz.prog Tryz.f8 Rows.zonoNewsRow.domain false) (Rows.zonoNewsSpec.post enc Tryz.prog Tryz.f8 false true false false) := by
  refine returnsInHanded_of_change_sized (C := Tryz.checked) own started (by kernel_rfl) Tryz.func8
    (ChangeSpec.witness6 (enc := enc) (C := Tryz.checked) false ⟨#[], #[.slice none 0 0, .slice none 0 0], []⟩ 8 (by kernel_rfl) (by kernel_rfl) (by kernel_rfl) (by kernel_rfl)) ?_
  intro W base args ds gs before hval0 hW hcnd hsz _
  have hval : ∀ (j : Nat) t v, Tryz.f8.params[j]? = some t → args[j]? = some v → Value.okWide Tryz.prog W .any base t v := hval0
  have hW' := hW
  obtain ⟨p, q, hA0, hV, rfl, hfz, hnd⟩ := hW
  have hA : DataW.TrodAll enc Tryz.prog W 0 (fun _ => true) true Tryz.f8.params.toList args.toList ds p := hA0
  rw [Tryz.params8] at hA hval
  obtain ⟨v0, vs0, d0, ds0, p0, q0, hargs, rfl, rfl, h0, r0⟩ := trodAll_cons hA
  obtain ⟨v1, vs1, d1, ds1, p1, q1, rfl, rfl, rfl, h1, r1⟩ := trodAll_cons r0
  obtain ⟨rfl, rfl, rfl⟩ := trodAll_nil r1
  obtain rfl : args = #[v0, v1] := by cases args; simp_all
  obtain ⟨rfl, rfl⟩ := trodVars_none hV
  have hw0 : ∀ m ∈ d0.weights Tryz.prog 22, m ≤ reachBytes := fun m hm => of_decide_eq_true (List.all_eq_true.1 hsz m (DataW.weights_mem_each (j := 0) (t := 22) (d := d0) rfl rfl m hm))
  have hw1 : ∀ m ∈ d1.weights Tryz.prog 24, m ≤ reachBytes := fun m hm => of_decide_eq_true (List.all_eq_true.1 hsz m (DataW.weights_mem_each (j := 1) (t := 24) (d := d1) rfl rfl m hm))
  have k0 := h0
  have lt0 : ∀ x ∈ p0, x.block < W.heap.size := by obtain ⟨m, hm⟩ := k0; exact DataW.trod_lt m _ _ _ hm
  obtain ⟨aa0, ln0, cp0, rfl⟩ := okWide_slice Tryz.underlying22 (hval 0 22 v0 rfl rfl)
  obtain ⟨us0, el0, hu0⟩ : ∃ us : List (Nat), us.length = ln0 ∧ FIn W aa0 cp0 us := by
    obtain ⟨fuel, hf⟩ := h0
    obtain ⟨A, cap, us, e, hu⟩ := open_flts hf hw0
    simp [Value.cells] at e
    obtain ⟨rfl, rfl, rfl⟩ := e
    exact ⟨us, rfl, hu⟩
  subst el0
  have k1 := h1
  have lt1 : ∀ x ∈ p1, x.block < W.heap.size := by obtain ⟨m, hm⟩ := k1; exact DataW.trod_lt m _ _ _ hm
  obtain ⟨aa1, ln1, cp1, rfl⟩ := okWide_slice Tryz.underlying24 (hval 1 24 v1 rfl rfl)
  obtain ⟨us1, el1, hu1⟩ : ∃ us : List (List Nat), us.length = ln1 ∧ GIn W aa1 cp1 us := by
    obtain ⟨fuel, hf⟩ := h1
    obtain ⟨A, cap, us, e, hu⟩ := open_lists hf hw1
    simp [Value.cells] at e
    obtain ⟨rfl, rfl, rfl⟩ := e
    exact ⟨us, rfl, hu⟩
  subst el1
  clear hA0 hval0
  refine (news_any W aa0 cp0 us0 hu0 aa1 cp1 us1 hu1).mono fun e W' ⟨he, bel⟩ => ?_
  subst he
  exact ⟨_, rfl, _, _, _, [], _, [], hW', trodAll_mk1 (shut_bool Tryz.underlying4 _), (trodAll_cons_mk (Below.trod laidOut (by kernel_rfl) (of_decide_eq_true (by kernel_rfl)) k0 bel lt0) (trodAll_cons_mk (Below.trod laidOut (by kernel_rfl) (of_decide_eq_true (by kernel_rfl)) k1 bel lt1) trodAll_mk0)), rfl, bel.frame _, fun h => by cases h⟩
set_option maxRecDepth 100000 in
theorem liftedC (os : Os) (started : os.Started) (H : Type) (enc : TypeId × Value → H) (F : Stop.Interp) :
    ReturnsInHanded { calm := true } Tryz.checked os 8 .any (fun w args => (Rows.zonoNewsSpec.pre enc Tryz.prog Tryz.f8 [] false w args ∧ True) ∧ sizedMet enc Tryz.prog Tryz.f8 (OpenSpec.ofChange Rows.zonoNewsSpec) false w args)
      ((OpenSpec.ofChange Rows.zonoNewsSpec).postWith enc Tryz.prog Tryz.f8 F (outsideKept [.timePasses]) false true false) := by
  refine returns_of_change (C := Tryz.checked) (X := fun _ _ => True) (fun _ _ _ _ h => h) own started (by kernel_rfl) Tryz.func8
    (witness (enc := enc) (C := Tryz.checked) ⟨#[], #[.slice none 0 0, .slice none 0 0], []⟩ 8 (by kernel_rfl) (by kernel_rfl) (by kernel_rfl) (by kernel_rfl)) ?_
  intro W base args ds gs before hval0 hW _ hsz _ hsh
  have hval : ∀ (j : Nat) t v, Tryz.f8.params[j]? = some t → args[j]? = some v → Value.okWide Tryz.prog W .any base t v := hval0
  have hW' := hW
  obtain ⟨p, q, hA0, hV, rfl, hfz, hnd⟩ := hW
  have hA : DataW.TrodAll enc Tryz.prog W 0 (fun _ => true) true Tryz.f8.params.toList args.toList ds p := hA0
  rw [Tryz.params8] at hA hval
  obtain ⟨v0, vs0, d0, ds0, p0, q0, hargs, rfl, rfl, h0, r0⟩ := trodAll_cons hA
  obtain ⟨v1, vs1, d1, ds1, p1, q1, rfl, rfl, rfl, h1, r1⟩ := trodAll_cons r0
  obtain ⟨rfl, rfl, rfl⟩ := trodAll_nil r1
  obtain rfl : args = #[v0, v1] := by cases args; simp_all
  obtain ⟨rfl, rfl⟩ := trodVars_none hV
  have hw0 : ∀ m ∈ d0.weights Tryz.prog 22, m ≤ reachBytes := fun m hm => of_decide_eq_true (List.all_eq_true.1 hsz m (DataW.weights_mem_each (j := 0) (t := 22) (d := d0) rfl rfl m hm))
  have hw1 : ∀ m ∈ d1.weights Tryz.prog 24, m ≤ reachBytes := fun m hm => of_decide_eq_true (List.all_eq_true.1 hsz m (DataW.weights_mem_each (j := 1) (t := 24) (d := d1) rfl rfl m hm))
  have k0 := h0
  have lt0 : ∀ x ∈ p0, x.block < W.heap.size := by obtain ⟨m, hm⟩ := k0; exact DataW.trod_lt m _ _ _ hm
  obtain ⟨aa0, ln0, cp0, rfl⟩ := okWide_slice Tryz.underlying22 (hval 0 22 v0 rfl rfl)
  obtain ⟨us0, el0, hu0⟩ : ∃ us : List (Nat), us.length = ln0 ∧ FIn W aa0 cp0 us := by
    obtain ⟨fuel, hf⟩ := h0
    obtain ⟨A, cap, us, e, hu⟩ := open_flts hf hw0
    simp [Value.cells] at e
    obtain ⟨rfl, rfl, rfl⟩ := e
    exact ⟨us, rfl, hu⟩
  subst el0
  have k1 := h1
  have lt1 : ∀ x ∈ p1, x.block < W.heap.size := by obtain ⟨m, hm⟩ := k1; exact DataW.trod_lt m _ _ _ hm
  obtain ⟨aa1, ln1, cp1, rfl⟩ := okWide_slice Tryz.underlying24 (hval 1 24 v1 rfl rfl)
  obtain ⟨us1, el1, hu1⟩ : ∃ us : List (List Nat), us.length = ln1 ∧ GIn W aa1 cp1 us := by
    obtain ⟨fuel, hf⟩ := h1
    obtain ⟨A, cap, us, e, hu⟩ := open_lists hf hw1
    simp [Value.cells] at e
    obtain ⟨rfl, rfl, rfl⟩ := e
    exact ⟨us, rfl, hu⟩
  subst el1
  clear hA0 hval0
  refine (news_any W aa0 cp0 us0 hu0 aa1 cp1 us1 hu1).mono fun e W' ⟨he, bel⟩ => ?_
  subst he
  have hsince := Since.of_below bel
  have hW'' : DataW.Whole enc Tryz.prog Tryz.f8.params.toList Rows.zonoNewsSpec.vars false W #[.slice aa0 us0.length cp0, .slice aa1 us1.length cp1].toList _ _ _ := hW'
  exact ⟨_, rfl, ⟨_, _, _, [], _, [], hW'', trodAll_mk1 (shut_bool Tryz.underlying4 _),
    (trodAll_cons_mk (Below.trod laidOut (by kernel_rfl) (of_decide_eq_true (by kernel_rfl)) k0 hsince.2 lt0) (trodAll_cons_mk (Below.trod laidOut (by kernel_rfl) (of_decide_eq_true (by kernel_rfl)) k1 hsince.2 lt1) trodAll_mk0)), rfl, hsince.2.frame _, fun h => by cases h⟩, hsince.1⟩
theorem over : Rows.zonoNewsRow.holds Tryz.pinned (OpenSpec.ofChange Rows.zonoNewsSpec) := by
  first
  | exact (
    OpenClaim.holds_of_wide 8 Tryz.f8 rfl rfl rfl rfl rfl rfl rfl ⟨rfl, rfl, rfl, rfl, rfl⟩ rfl rfl rfl rfl rfl (by kernel_rfl) Tryz.func8 (by kernel_rfl)
      (of_decide_eq_true (by kernel_rfl)) (by unfold Func.isWrapper; first | (rw [if_pos (by decide +kernel)]; kernel_rfl) | (rw [if_neg (by decide +kernel)]; exact ⟨rfl, rfl⟩))
      (fun os started H enc _ => lifted os started H enc))
  | exact (
    holds_of_wide_time 8 Tryz.f8 rfl rfl rfl rfl rfl rfl rfl ⟨rfl, rfl, rfl, rfl, rfl⟩ rfl rfl rfl rfl rfl (by kernel_rfl) Tryz.func8 (by kernel_rfl)
      (of_decide_eq_true (by kernel_rfl)) (by unfold Func.isWrapper; first | (rw [if_pos (by decide +kernel)]; kernel_rfl) | (rw [if_neg (by decide +kernel)]; exact ⟨rfl, rfl⟩))
      (fun os started H enc _ F => by rw [pre_unlisted rfl]; exact liftedC os started H enc F))
/-- ████ THE STATEMENT ████ -/
theorem proved : Rows.ZonoNewsSaid := over
end Go.Proofs.YtpfbgenefjhcjaaGreatDoor.zonoNews
