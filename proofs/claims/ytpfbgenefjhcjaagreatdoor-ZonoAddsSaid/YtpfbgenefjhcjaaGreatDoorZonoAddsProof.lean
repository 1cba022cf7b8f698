/-
 Proved: ambitlaw10.ZonoAdds returns true for every input, and its arguments read as they did before. No condition beyond the given row's own.
-/
import Derived.Test.YtpfbgenefjhcjaaGreatDoorRows
import Derived.Test.YtpfbgenefjhcjaaGreatDoorZoAdds
import Derived.Test.YtpfbgenefjhcjaaGreatDoorPZoFrame
import Derived.WalkKit
import Derived.ProofKit
import Derived.OpenShut
import Derived.ChangeOld
import Derived.Below
import Derived.Clock
import Derived.SizedLaws
import Derived.Deep.Slices
namespace Go.Proofs.YtpfbgenefjhcjaaGreatDoor.zonoAdds
open Go.ChangeShapes Go.WideShapes Go.ChangeAt Go.RowKit Go.Clock
set_option linter.unusedVariables false
theorem own : ownKnob Tryz.prog.godebug = none := by kernel_rfl
theorem laidOut : laidOutB Tryz.prog = true := by kernel_rfl
set_option maxRecDepth 100000 in
theorem lifted (os : Os) (started : os.Started) (H : Type) (enc : TypeId × Value → H) :
  ReturnsInHanded {} Tryz.checked os 12 .any (Rows.zonoAddsSpec.pre6 enc Tryz.prog Tryz.f12 Rows.zonoAddsRow.domain false) (Rows.zonoAddsSpec.post enc Tryz.prog Tryz.f12 false true false false) := by
 refine returnsInHanded_of_change_sized (C := Tryz.checked) own started (by kernel_rfl) Tryz.func12
  (ChangeSpec.witness6 (enc := enc) (C := Tryz.checked) false ⟨#[], #[.agg #[.int .i64 0, .slice none 0 0, .slice none 0 0, .slice none 0 0, .slice none 0 0, .bool false], .agg #[.int .i64 0, .slice none 0 0, .slice none 0 0, .slice none 0 0, .slice none 0 0, .bool false]], []⟩ 8 (by kernel_rfl) (by kernel_rfl) (by kernel_rfl) (by kernel_rfl)) ?_
 intro W base args ds gs before hval0 hW hcnd hsz _
 have hval : ∀ (j : Nat) t v, Tryz.f12.params[j]? = some t → args[j]? = some v → Value.okWide Tryz.prog W .any base t v := hval0
 have hW' := hW
 obtain ⟨p, q, hA0, hV, rfl, hfz, hnd⟩ := hW
 have hA : DataW.TrodAll enc Tryz.prog W 0 (fun _ => true) true Tryz.f12.params.toList args.toList ds p := hA0
 rw [Tryz.params12] at hA hval
 obtain ⟨v0, vs0, d0, ds0, p0, q0, hargs, rfl, rfl, h0, r0⟩ := trodAll_cons hA
 obtain ⟨v1, vs1, d1, ds1, p1, q1, rfl, rfl, rfl, h1, r1⟩ := trodAll_cons r0
 obtain ⟨rfl, rfl, rfl⟩ := trodAll_nil r1
 obtain rfl : args = #[v0, v1] := by cases args; simp_all
 obtain ⟨rfl, rfl⟩ := trodVars_none hV
 have hw0 : ∀ m ∈ d0.weights Tryz.prog 26, m ≤ reachBytes := fun m hm => of_decide_eq_true (List.all_eq_true.1 hsz m (DataW.weights_mem_each (j := 0) (t := 26) (d := d0) rfl rfl m hm))
 have hw1 : ∀ m ∈ d1.weights Tryz.prog 26, m ≤ reachBytes := fun m hm => of_decide_eq_true (List.all_eq_true.1 hsz m (DataW.weights_mem_each (j := 1) (t := 26) (d := d1) rfl rfl m hm))
 have k0 := h0
 have lt0 : ∀ x ∈ p0, x.block < W.heap.size := by obtain ⟨m, hm⟩ := k0; exact DataW.trod_lt m _ _ _ hm
 obtain ⟨z0, hz0⟩ : ∃ z, ZIn W v0 z := by
  obtain ⟨fuel, hf⟩ := h0
  exact open_zono (hval 0 26 v0 rfl rfl) hf hw0
 have k1 := h1
 have lt1 : ∀ x ∈ p1, x.block < W.heap.size := by obtain ⟨m, hm⟩ := k1; exact DataW.trod_lt m _ _ _ hm
 obtain ⟨z1, hz1⟩ : ∃ z, ZIn W v1 z := by
  obtain ⟨fuel, hf⟩ := h1
  exact open_zono (hval 1 26 v1 rfl rfl) hf hw1
 clear hA0 hval0
 refine (adds_any W v0 z0 hz0 v1 z1 hz1).mono fun e W' ⟨he, bel⟩ => ?_
 subst he
 exact ⟨_, rfl, _, _, _, [], _, [], hW', trodAll_mk1 (shut_bool Tryz.underlying4 _), (trodAll_cons_mk (Below.trod laidOut (by kernel_rfl) (of_decide_eq_true (by kernel_rfl)) k0 bel lt0) (trodAll_cons_mk (Below.trod laidOut (by kernel_rfl) (of_decide_eq_true (by kernel_rfl)) k1 bel lt1) trodAll_mk0)), rfl, bel.frame _, fun h => by cases h⟩
set_option maxRecDepth 100000 in
theorem liftedC (os : Os) (started : os.Started) (H : Type) (enc : TypeId × Value → H) (F : Stop.Interp) :
  ReturnsInHanded { calm := true } Tryz.checked os 12 .any (fun w args => (Rows.zonoAddsSpec.pre enc Tryz.prog Tryz.f12 [] false w args ∧ True) ∧ sizedMet enc Tryz.prog Tryz.f12 (OpenSpec.ofChange Rows.zonoAddsSpec) false w args)
   ((OpenSpec.ofChange Rows.zonoAddsSpec).postWith enc Tryz.prog Tryz.f12 F (outsideKept [.timePasses]) false true false) := by
 refine returns_of_change (C := Tryz.checked) (X := fun _ _ => True) (fun _ _ _ _ h => h) own started (by kernel_rfl) Tryz.func12
  (witness (enc := enc) (C := Tryz.checked) ⟨#[], #[.agg #[.int .i64 0, .slice none 0 0, .slice none 0 0, .slice none 0 0, .slice none 0 0, .bool false], .agg #[.int .i64 0, .slice none 0 0, .slice none 0 0, .slice none 0 0, .slice none 0 0, .bool false]], []⟩ 8 (by kernel_rfl) (by kernel_rfl) (by kernel_rfl) (by kernel_rfl)) ?_
 intro W base args ds gs before hval0 hW _ hsz _ hsh
 have hval : ∀ (j : Nat) t v, Tryz.f12.params[j]? = some t → args[j]? = some v → Value.okWide Tryz.prog W .any base t v := hval0
 have hW' := hW
 obtain ⟨p, q, hA0, hV, rfl, hfz, hnd⟩ := hW
 have hA : DataW.TrodAll enc Tryz.prog W 0 (fun _ => true) true Tryz.f12.params.toList args.toList ds p := hA0
 rw [Tryz.params12] at hA hval
 obtain ⟨v0, vs0, d0, ds0, p0, q0, hargs, rfl, rfl, h0, r0⟩ := trodAll_cons hA
 obtain ⟨v1, vs1, d1, ds1, p1, q1, rfl, rfl, rfl, h1, r1⟩ := trodAll_cons r0
 obtain ⟨rfl, rfl, rfl⟩ := trodAll_nil r1
 obtain rfl : args = #[v0, v1] := by cases args; simp_all
 obtain ⟨rfl, rfl⟩ := trodVars_none hV
 have hw0 : ∀ m ∈ d0.weights Tryz.prog 26, m ≤ reachBytes := fun m hm => of_decide_eq_true (List.all_eq_true.1 hsz m (DataW.weights_mem_each (j := 0) (t := 26) (d := d0) rfl rfl m hm))
 have hw1 : ∀ m ∈ d1.weights Tryz.prog 26, m ≤ reachBytes := fun m hm => of_decide_eq_true (List.all_eq_true.1 hsz m (DataW.weights_mem_each (j := 1) (t := 26) (d := d1) rfl rfl m hm))
 have k0 := h0
 have lt0 : ∀ x ∈ p0, x.block < W.heap.size := by obtain ⟨m, hm⟩ := k0; exact DataW.trod_lt m _ _ _ hm
 obtain ⟨z0, hz0⟩ : ∃ z, ZIn W v0 z := by
  obtain ⟨fuel, hf⟩ := h0
  exact open_zono (hval 0 26 v0 rfl rfl) hf hw0
 have k1 := h1
 have lt1 : ∀ x ∈ p1, x.block < W.heap.size := by obtain ⟨m, hm⟩ := k1; exact DataW.trod_lt m _ _ _ hm
 obtain ⟨z1, hz1⟩ : ∃ z, ZIn W v1 z := by
  obtain ⟨fuel, hf⟩ := h1
  exact open_zono (hval 1 26 v1 rfl rfl) hf hw1
 clear hA0 hval0
 refine (adds_any W v0 z0 hz0 v1 z1 hz1).mono fun e W' ⟨he, bel⟩ => ?_
 subst he
 have hsince := Since.of_below bel
 have hW'' : DataW.Whole enc Tryz.prog Tryz.f12.params.toList Rows.zonoAddsSpec.vars false W #[v0, v1].toList _ _ _ := hW'
 exact ⟨_, rfl, ⟨_, _, _, [], _, [], hW'', trodAll_mk1 (shut_bool Tryz.underlying4 _),
  (trodAll_cons_mk (Below.trod laidOut (by kernel_rfl) (of_decide_eq_true (by kernel_rfl)) k0 hsince.2 lt0) (trodAll_cons_mk (Below.trod laidOut (by kernel_rfl) (of_decide_eq_true (by kernel_rfl)) k1 hsince.2 lt1) trodAll_mk0)), rfl, hsince.2.frame _, fun h => by cases h⟩, hsince.1⟩
theorem over : Rows.zonoAddsRow.holds Tryz.pinned (OpenSpec.ofChange Rows.zonoAddsSpec) := by
 first
 | exact (
  OpenClaim.holds_of_wide 12 Tryz.f12 rfl rfl rfl rfl rfl rfl rfl ⟨rfl, rfl, rfl, rfl, rfl⟩ rfl rfl rfl rfl rfl (by kernel_rfl) Tryz.func12 (by kernel_rfl)
   (of_decide_eq_true (by kernel_rfl)) (by unfold Func.isWrapper; first | (rw [if_pos (by decide +kernel)]; kernel_rfl) | (rw [if_neg (by decide +kernel)]; exact ⟨rfl, rfl⟩))
   (fun os started H enc _ => lifted os started H enc))
 | exact (
  holds_of_wide_time 12 Tryz.f12 rfl rfl rfl rfl rfl rfl rfl ⟨rfl, rfl, rfl, rfl, rfl⟩ rfl rfl rfl rfl rfl (by kernel_rfl) Tryz.func12 (by kernel_rfl)
   (of_decide_eq_true (by kernel_rfl)) (by unfold Func.isWrapper; first | (rw [if_pos (by decide +kernel)]; kernel_rfl) | (rw [if_neg (by decide +kernel)]; exact ⟨rfl, rfl⟩))
   (fun os started H enc _ F => by rw [pre_unlisted rfl]; exact liftedC os started H enc F))
/-- ████ THE STATEMENT ████ -/
theorem proved : Rows.ZonoAddsSaid := over
end Go.Proofs.YtpfbgenefjhcjaaGreatDoor.zonoAdds
