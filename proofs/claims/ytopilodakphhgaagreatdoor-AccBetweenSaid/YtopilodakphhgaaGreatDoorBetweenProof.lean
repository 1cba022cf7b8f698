/-
  Proved: ambitlaw3.AccBetween returns true for every input, and its arguments read as they did before. No condition beyond the given row's own.
-/
import Derived.Test.YtopilodakphhgaaGreatDoorRows
import Derived.Test.YtopilodakphhgaaGreatDoorBetween
import Derived.WalkKit
import Derived.ProofKit
import Derived.OpenShut
import Derived.ChangeOld
import Derived.Below
import Derived.Clock
import Derived.Deep.Slices
namespace Go.Proofs.YtopilodakphhgaaGreatDoor.accBetween
open Go.ChangeShapes Go.WideShapes Go.ChangeAt Go.RowKit Go.Clock
set_option linter.unusedVariables false
theorem own : ownKnob Tryz.prog.godebug = none := by kernel_rfl
theorem laidOut : laidOutB Tryz.prog = true := by kernel_rfl
theorem cells22 : Tryz.prog.cellsOf 31 = 1 := by kernel_rfl
theorem cells3 : Tryz.prog.cellsOf 3 = 1 := by kernel_rfl
theorem cells56 : Tryz.prog.cellsOf 33 = 3 := by kernel_rfl
section
variable {H : Type} {enc : TypeId × Value → H} {w : World} {base : Nat} {spare : Nat → Bool} {held : Bool} {fuel : Nat}
instance : Inhabited Trm := ⟨⟨0, 0, 0⟩⟩
set_option maxRecDepth 100000 in
/-- A term's three cells, out of its reading. -/
theorem open_term {cs : List Value} {x : DataW H × List MemPlace} (h : DataW.trod enc Tryz.prog w base spare held fuel 33 cs = some x) :
    ∃ t : Trm, cs = Trm.cells t ∧ t.a < B64 ∧ t.b < B64 ∧ -9223372036854775808 ≤ t.n ∧ t.n ≤ 9223372036854775807 := by
  obtain ⟨xs, n, _, _, hl, hxs, hel⟩ := DataW.trod_struct Tryz.underlying33 h
  rw [cells56] at hl
  match cs, hl with
  | [c0, c1, c2], _ =>
    match xs, hxs with
    | [x0, x1, x2], _ =>
      have k0 : DataW.trod enc Tryz.prog w base spare held n 31 (List.take (Tryz.prog.cellsOf 31) (List.drop 0 [c0, c1, c2])) = some x0 := hel 0 _ rfl
      have k1 : DataW.trod enc Tryz.prog w base spare held n 31 (List.take (Tryz.prog.cellsOf 31) (List.drop 1 [c0, c1, c2])) = some x1 := hel 1 _ rfl
      have k2 : DataW.trod enc Tryz.prog w base spare held n 3 (List.take (Tryz.prog.cellsOf 3) (List.drop 2 [c0, c1, c2])) = some x2 := hel 2 _ rfl
      rw [cells22] at k0 k1
      rw [cells3] at k2
      obtain ⟨z0, a0, _, w0⟩ := DataW.trod_int Tryz.underlying31 k0
      obtain ⟨z1, a1, _, w1⟩ := DataW.trod_int Tryz.underlying31 k1
      obtain ⟨z2, a2, _, w2⟩ := DataW.trod_int Tryz.underlying3 k2
      simp [Lit.wf, IntKind.min, IntKind.max, IntKind.signed, IntKind.bits] at w0 w1 w2
      have a0 : [c0] = [Value.int .u64 z0] := a0
      have a1 : [c1] = [Value.int .u64 z1] := a1
      have a2 : [c2] = [Value.int .i64 z2] := a2
      injection a0 with a0
      injection a1 with a1
      injection a2 with a2
      refine ⟨⟨z0.toNat, z1.toNat, z2⟩, ?_, by unfold B64; show z0.toNat < _; omega, by unfold B64; show z1.toNat < _; omega, w2.1, w2.2⟩
      rw [a0, a1, a2]
      show _ = [Value.int .u64 ((z0.toNat : Nat) : Int), Value.int .u64 ((z1.toNat : Nat) : Int), Value.int .i64 z2]
      rw [Int.toNat_of_nonneg w0.1, Int.toNat_of_nonneg w1.1]
theorem block_lt_size {w : World} {a : Addr} {v : Value} (h : w.cell? a = some v) : a.block < w.heap.size := by
  unfold World.cell? at h
  split at h
  · rename_i hb; exact (Array.getElem?_eq_some_iff.1 hb).1
  · cases h
theorem spot_of {w : World} {a : Addr} {v : Value} (h : w.cell? a = some v) : a = ⟨a.block, a.off, none⟩ := by
  unfold World.cell? at h
  split at h
  · split at h
    · cases h
    · next hs =>
      obtain ⟨b, o, s⟩ := a
      cases s with
      | none => rfl
      | some _ => simp at hs
  · cases h
/-- A slice of terms that came in: its terms, as they lie. -/
theorem open_terms {A : Option Addr} {len cap : Nat} {x : DataW H × List MemPlace} (h : DataW.trod enc Tryz.prog w base spare held fuel 22 [.slice A len cap] = some x) :
    ∃ ts : List Trm, TRow w A ts ∧ ts.length = len ∧ len ≤ cap ∧ cap ≤ maxLen := by
  rcases Deep.open_slice Tryz.underlying22 h with ⟨hcs, _⟩ | ⟨a, l, c, m, n, D, Pl, hcs, _, hl, hm, hmm, _, hx⟩
  · injection hcs with hcs
    injection hcs with h1 h2 h3
    subst h1 h2 h3
    exact ⟨[], fun j t hj => by simp at hj, rfl, Nat.le_refl _, Nat.zero_le _⟩
  · injection hcs with hcs
    injection hcs with h1 h2 h3
    subst h1 h2 h3
    have hlm : len ≤ m := by rw [hmm]; split <;> omega
    have one : ∀ i, i < len → ∃ t : Trm, t.a < B64 ∧ t.b < B64 ∧ -9223372036854775808 ≤ t.n ∧ t.n ≤ 9223372036854775807 ∧ ∀ k v, (Trm.cells t)[k]? = some v → w.cell? (a.add (i * 3 + k)) = some v := fun i hi => by
      obtain ⟨cs', h1, h2⟩ := hx i (by omega)
      rw [cells56] at h1
      obtain ⟨t, rfl, ht⟩ := open_term h2
      obtain ⟨_, hlen, hcell⟩ := World.cells?_some h1
      refine ⟨t, ht.1, ht.2.1, ht.2.2.1, ht.2.2.2, fun k v hv => ?_⟩
      have hk : k < 3 := by have := (List.getElem?_eq_some_iff.1 hv).1; rw [hlen] at this; exact this
      have := hcell k hk
      rw [Deep.add_add] at this
      rw [this, hv]
    obtain ⟨F, hF⟩ := Deep.choose_lt (α := Trm) (n := len) (p := fun i t => t.a < B64 ∧ t.b < B64 ∧ -9223372036854775808 ≤ t.n ∧ t.n ≤ 9223372036854775807 ∧ ∀ k v, (Trm.cells t)[k]? = some v → w.cell? (a.add (i * 3 + k)) = some v) one
    refine ⟨(List.range len).map F, fun j t hj => ?_, by simp, hl, hm⟩
    rw [List.getElem?_map] at hj
    obtain ⟨j', hj', rfl⟩ := Option.map_eq_some_iff.1 hj
    obtain ⟨hjl, hje⟩ := List.getElem?_eq_some_iff.1 hj'
    simp at hjl hje
    subst hje
    obtain ⟨g1, g2, g3, g4, g5⟩ := hF j hjl
    have f0 := g5 0 _ rfl
    have f1 := g5 1 _ rfl
    have f2 := g5 2 _ rfl
    obtain ⟨s1, s2, s3, s4, s5⟩ := hF 0 (by omega)
    have z0 := s5 0 _ rfl
    rw [show 0 * 3 + 0 = 0 by rfl, show a.add 0 = a from if_pos rfl] at z0
    have hsp := spot_of z0
    rw [hsp] at f0 f1 f2 ⊢
    have hadd : ∀ i : Nat, (⟨a.block, a.off, none⟩ : Addr).add i = ⟨a.block, a.off + i, none⟩ := fun i => by
      unfold Addr.add
      split
      · next h0 => subst h0; rfl
      · rfl
    rw [hadd] at f0 f1 f2
    exact ⟨a.block, a.off, rfl, block_lt_size z0, f0, by rw [Nat.add_assoc]; exact f1, by rw [Nat.add_assoc]; exact f2, g1, g2, g3, g4⟩
end
set_option maxRecDepth 100000 in
theorem lifted (os : Os) (started : os.Started) (H : Type) (enc : TypeId × Value → H) :
    ReturnsInHanded {} Tryz.checked os 3 .any (Rows.accBetweenSpec.pre6 enc Tryz.prog Tryz.f3 Rows.accBetweenRow.domain false) (Rows.accBetweenSpec.post enc Tryz.prog Tryz.f3 false true false false) := by
  refine returnsInHanded_of_change (C := Tryz.checked) own started (by kernel_rfl) Tryz.func3
    (ChangeSpec.witness6 (enc := enc) (C := Tryz.checked) false ⟨#[], #[.slice none 0 0], []⟩ 8 (by kernel_rfl) (by kernel_rfl) (by kernel_rfl) (by kernel_rfl)) ?_
  intro W base args ds gs before hval0 hW hcnd _
  have hval : ∀ (j : Nat) t v, Tryz.f3.params[j]? = some t → args[j]? = some v → Value.okWide Tryz.prog W .any base t v := hval0
  have hW' := hW
  obtain ⟨p, q, hA0, hV, rfl, hfz, hnd⟩ := hW
  have hA : DataW.TrodAll enc Tryz.prog W 0 (fun _ => true) true Tryz.f3.params.toList args.toList ds p := hA0
  rw [Tryz.params3] at hA hval
  obtain ⟨v0, vs0, d0, ds0, p0, q0, hargs, rfl, rfl, h0, r0⟩ := trodAll_cons hA
  obtain ⟨rfl, rfl, rfl⟩ := trodAll_nil r0
  obtain rfl : args = #[v0] := by cases args; simp_all
  obtain ⟨rfl, rfl⟩ := trodVars_none hV
  obtain ⟨a0, len0, cap0, rfl⟩ := okWide_slice Tryz.underlying22 (hval 0 22 v0 rfl rfl)
  have k0 := h0
  have lt0 : ∀ x ∈ p0, x.block < W.heap.size := by obtain ⟨m, hm⟩ := k0; exact DataW.trod_lt m _ _ _ hm
  obtain ⟨ts, e0, l0, c0, m0⟩ : ∃ ts : List Trm, TRow W a0 ts ∧ ts.length = len0 ∧ len0 ≤ cap0 ∧ cap0 ≤ maxLen := by
    obtain ⟨fuel, hf⟩ := h0
    exact open_terms hf
  clear hA0 hval0
  refine (between_any W a0 len0 cap0 ts e0 l0 c0 m0).mono fun e W' ⟨he, bel⟩ => ?_
  subst he
  exact ⟨_, rfl, _, _, _, [], _, [], hW', trodAll_mk1 (shut_bool Tryz.underlying4 _), (trodAll_cons_mk (Below.trod laidOut (by kernel_rfl) (of_decide_eq_true (by kernel_rfl)) k0 bel lt0) trodAll_mk0), rfl, bel.frame _, fun h => by cases h⟩

theorem over : Rows.accBetweenRow.holds Tryz.pinned (OpenSpec.ofChange Rows.accBetweenSpec) :=
  OpenClaim.holds_of_wide 3 Tryz.f3 rfl rfl rfl rfl rfl rfl rfl ⟨rfl, rfl, rfl, rfl, rfl⟩ rfl rfl rfl rfl rfl (by kernel_rfl) Tryz.func3 (by kernel_rfl)
    (of_decide_eq_true (by kernel_rfl)) (by unfold Func.isWrapper; first | (rw [if_pos (by decide +kernel)]; kernel_rfl) | (rw [if_neg (by decide +kernel)]; exact ⟨rfl, rfl⟩))
    (fun os started H enc _ => lifted os started H enc)

/-- ████ THE STATEMENT ████ -/
theorem proved : Rows.AccBetweenSaid := over
end Go.Proofs.YtopilodakphhgaaGreatDoor.accBetween
