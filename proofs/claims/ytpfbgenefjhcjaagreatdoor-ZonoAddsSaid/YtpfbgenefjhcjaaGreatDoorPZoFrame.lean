/-
 What came in, read: lists of floats, of whole numbers, of lists; a zonotope.
-/
import Derived.Test.YtpfbgenefjhcjaaGreatDoorPZoHel
import Derived.Deep.Slices
import Derived.SizedLaws
namespace Go.Proofs.YtpfbgenefjhcjaaGreatDoor
set_option linter.unusedVariables false
set_option linter.unusedSimpArgs false
open Go Go.RowKit Go.ChangeShapes Go.WideShapes
set_option maxRecDepth 100000
theorem blk_lt {w : World} {a : Addr} {v : Value} (h : w.cell? a = some v) : a.block < w.heap.size := by
 unfold World.cell? at h
 split at h
 ·rename_i hb; exact (Array.getElem?_eq_some_iff.1 hb).1
 ·cases h
theorem spot_ad {w : World} {a : Addr} {v : Value} (h : w.cell? a = some v) : a = ⟨a.block, a.off, none⟩ := by
 unfold World.cell? at h
 split at h
 ·split at h
  ·cases h
  ·next hs =>
   obtain ⟨b, o, s⟩ := a
   cases s with
   | none => rfl
   | some _ => simp at hs
 ·cases h
section
variable {H : Type} {enc : TypeId × Value → H} {P : Program} {w : World} {base : Nat} {spare : Nat → Bool} {held : Bool} {fuel : Nat}
theorem trod_flt {t : TypeId} {cs : List Value} {x : DataW H × List MemPlace} (ht : P.underlying t = some (.float .f64)) (h : DataW.trod enc P w base spare held fuel t cs = some x) : ∃ b : Nat, cs = [.float .f64 b] ∧ b < B64 := by
 cases fuel with
 | zero => simp [DataW.trod] at h
 | succ n =>
  unfold DataW.trod at h
  rw [ht] at h
  split at h
  case h_3 k k' b heq =>
   injection heq with heq
   injection heq with heq
   subst heq
   split at h
   ·next hc =>
    obtain ⟨rfl, hwf⟩ := hc
    exact ⟨b, rfl, by unfold B64; simpa [Lit.wf] using hwf⟩
   ·cases h
  all_goals simp_all
theorem trod_int64 {t : TypeId} {cs : List Value} {x : DataW H × List MemPlace} (ht : P.underlying t = some (.int .i64)) (h : DataW.trod enc P w base spare held fuel t cs = some x) : ∃ n : Int, cs = [.int .i64 n] ∧ -9223372036854775808 ≤ n ∧ n ≤ 9223372036854775807 := by
 obtain ⟨n, h1, _, h2⟩ := DataW.trod_int ht h
 simp [Lit.wf, IntKind.min, IntKind.max, IntKind.signed, IntKind.bits] at h2
 exact ⟨n, h1, h2.1, h2.2⟩
theorem trod_bool' {t : TypeId} {cs : List Value} {x : DataW H × List MemPlace} (ht : P.underlying t = some .bool) (h : DataW.trod enc P w base spare held fuel t cs = some x) : ∃ b : Bool, cs = [.bool b] := by
 cases fuel with
 | zero => simp [DataW.trod] at h
 | succ n =>
  unfold DataW.trod at h
  rw [ht] at h
  split at h <;> simp_all
theorem weightsAll_mem {e : TypeId} {d : DataW H} {n : Nat} : ∀ {ds : List (DataW H)}, d ∈ ds → n ∈ d.weights P e → n ∈ DataW.weightsAll P e ds
 | d0 :: r, hd, hn => by
  simp only [DataW.weightsAll, List.mem_append]
  rcases List.mem_cons.1 hd with rfl | hd
  ·exact Or.inl hn
  ·exact Or.inr (weightsAll_mem hd hn)
/-- A list of one-cell elements that came in. -/
structure OpenRow {α : Type} (P : Program) (c : α → Value) (good : α → Prop) (e : TypeId) (w : World) (A : Option Addr) (cap : Nat) (us : List α) : Prop where
 row : R1 c w A us
 good : ∀ u ∈ us, good u
 len : us.length ≤ cap
 most : cap ≤ maxLen
 nil : A = none → cap = 0
 size : us.length * P.bytesOf e ≤ reachBytes
theorem OpenRow.lat {α : Type} {c : α → Value} {good : α → Prop} {e : TypeId} {A : Option Addr} {cap : Nat} {us : List α} (h : OpenRow P c good e w A cap us) : LAt c w A cap us := ⟨h.row, h.nil, h.len, h.most⟩
theorem open_row {α : Type} [Inhabited α] (c : α → Value) (good : α → Prop) {t e : TypeId} {cs : List Value} {x : DataW H × List MemPlace} (ht : P.underlying t = some (.slice e)) (hc : P.cellsOf e = 1)
  (hel : ∀ (n : Nat) (v : Value) (x : DataW H × List MemPlace), DataW.trod enc P w base spare held n e [v] = some x → ∃ u, v = c u ∧ good u)
  (h : DataW.trod enc P w base spare held fuel t cs = some x) (hw : ∀ n ∈ x.1.weights P t, n ≤ reachBytes) : ∃ A cap us, cs = [.slice A us.length cap] ∧ OpenRow P c good e w A cap us := by
 rcases Deep.open_slice1 ht hc h with ⟨rfl, _⟩ | ⟨a, len, cap, m, n, V, D, Pl, rfl, _, hl, hm, hmm, rfl, hx⟩
 ·exact ⟨none, 0, [], rfl, R1.nil _ _ _, (fun u hu => by cases hu), Nat.le_refl _, Nat.zero_le _, fun _ => rfl, by simp⟩
 ·have hlm : len ≤ m := by rw [hmm]; split <;> omega
  obtain ⟨F, hF⟩ := Deep.choose_lt (α := α) (n := len) (p := fun i u => V i = c u ∧ good u) (fun i hi => hel _ _ _ (hx i (by omega)).2)
  have hlen : ((List.range len).map F).length = len := by simp
  refine ⟨some a, cap, (List.range len).map F, by rw [hlen], fun j u hu => ?_, fun u hu => ?_, by rw [hlen]; exact hl, hm, (fun e => by cases e), ?_⟩
  ·obtain ⟨hj, e1⟩ := List.getElem?_eq_some_iff.1 hu
   rw [hlen] at hj
   rw [List.getElem_map, List.getElem_range] at e1
   subst e1
   have h0 := (hx 0 (by omega)).1
   have hj1 := (hx j (by omega)).1
   have hsp := spot_ad h0
   have hbl := blk_lt h0
   rw [show a.add 0 = a from if_pos rfl] at hsp hbl
   refine ⟨a.block, a.off, congrArg some hsp, hbl, ?_⟩
   rw [hsp, addr_add] at hj1
   rw [hj1, (hF j hj).1]
  ·obtain ⟨i, hi, rfl⟩ := List.mem_map.1 hu
   exact (hF i (List.mem_range.1 hi)).2
  ·have h1 := hw ((len + (m - len)) * P.bytesOf e) (by simp [DataW.weights, ht])
   rw [hlen]
   exact Nat.le_trans (Nat.mul_le_mul_right _ (by omega)) h1
/-- A list of such lists. -/
theorem open_rows {α : Type} [Inhabited α] (c : α → Value) (good : α → Prop) {t e f : TypeId} {cs : List Value} {x : DataW H × List MemPlace} (ht : P.underlying t = some (.slice e)) (hc : P.cellsOf e = 1) (he : P.underlying e = some (.slice f)) (hf : P.cellsOf f = 1)
  (hel : ∀ (n : Nat) (v : Value) (x : DataW H × List MemPlace), DataW.trod enc P w base spare held n f [v] = some x → ∃ u, v = c u ∧ good u)
  (h : DataW.trod enc P w base spare held fuel t cs = some x) (hw : ∀ n ∈ x.1.weights P t, n ≤ reachBytes) :
  ∃ (A : Option Addr) (cap : Nat) (gs : List (List α)), cs = [.slice A gs.length cap] ∧ RR c w A gs ∧ gs.length ≤ cap ∧ cap ≤ maxLen ∧ (A = none → cap = 0) ∧ gs.length * P.bytesOf e ≤ reachBytes ∧
   (∀ g ∈ gs, (∀ u ∈ g, good u) ∧ g.length * P.bytesOf f ≤ reachBytes) ∧
   ∀ (k : Nat) (g : List α), gs[k]? = some g → ∀ (b o : Nat) (B : Option Addr) (n cap : Nat), A = some ⟨b, o, none⟩ → w.cell? ⟨b, o + k, none⟩ = some (.slice B n cap) → B = none → cap = 0 := by
 rcases Deep.open_slice1 ht hc h with ⟨rfl, _⟩ | ⟨a, len, cap, m, n, V, D, Pl, rfl, _, hl, hm, hmm, rfl, hx⟩
 ·exact ⟨none, 0, [], rfl, (fun k g hg => by simp at hg), Nat.le_refl _, Nat.zero_le _, fun _ => rfl, by simp, (fun g hg => by cases hg), fun k g hg => by simp at hg⟩
 ·have hlm : len ≤ m := by rw [hmm]; split <;> omega
  have hwD : ∀ i, i < len → ∀ n ∈ (D i).weights P e, n ≤ reachBytes := fun i hi n hn => hw n (by
   simp only [DataW.weights, ht, List.mem_cons, List.mem_append]
   exact Or.inr (Or.inl (weightsAll_mem (List.mem_map.2 ⟨i, List.mem_range.2 hi, rfl⟩) hn)))
  have one : ∀ i, i < len → ∃ y : Option Addr × Nat × List α, V i = .slice y.1 y.2.2.length y.2.1 ∧ OpenRow P c good f w y.1 y.2.1 y.2.2 := fun i hi => by
   obtain ⟨A, cp, us, h1, h2⟩ := open_row c good he hf hel (hx i (by omega)).2 (hwD i hi)
   injection h1 with h1
   exact ⟨(A, cp, us), h1, h2⟩
  obtain ⟨F, hF⟩ := Deep.choose_lt one
  have hlen : ((List.range len).map fun i => (F i).2.2).length = len := by simp
  have hget : ∀ (k : Nat) (g : List α), ((List.range len).map fun i => (F i).2.2)[k]? = some g → k < len ∧ g = (F k).2.2 := fun k g hg => by
   obtain ⟨hj, e1⟩ := List.getElem?_eq_some_iff.1 hg
   rw [hlen] at hj
   rw [List.getElem_map, List.getElem_range] at e1
   exact ⟨hj, e1.symm⟩
  have hcell : ∀ k, k < len → a = ⟨a.block, a.off, none⟩ ∧ a.block < w.heap.size ∧ w.cell? ⟨a.block, a.off + k, none⟩ = some (.slice (F k).1 (F k).2.2.length (F k).2.1) := fun k hk => by
   have h0 := (hx 0 (by omega)).1
   have hj1 := (hx k (by omega)).1
   have hsp := spot_ad h0
   have hbl := blk_lt h0
   rw [show a.add 0 = a from if_pos rfl] at hsp hbl
   refine ⟨hsp, hbl, ?_⟩
   rw [hsp, addr_add] at hj1
   rw [hj1, (hF k hk).1]
  refine ⟨some a, cap, (List.range len).map fun i => (F i).2.2, by rw [hlen], fun k g hg => ?_, by rw [hlen]; exact hl, hm, (fun e => by cases e), ?_, fun g hg => ?_, fun k g hg b o B n cp hA hB hn => ?_⟩
  ·obtain ⟨hk, rfl⟩ := hget k g hg
   obtain ⟨h1, h2, h3⟩ := hcell k hk
   have h4 := (hF k hk).2
   exact ⟨a.block, a.off, congrArg some h1, h2, (F k).1, (F k).2.1, h3, h4.len, h4.most, h4.row⟩
  ·have h1 := hw ((len + (m - len)) * P.bytesOf e) (by simp [DataW.weights, ht])
   rw [hlen]
   exact Nat.le_trans (Nat.mul_le_mul_right _ (by omega)) h1
  ·obtain ⟨i, hi, rfl⟩ := List.mem_map.1 hg
   have h4 := (hF i (List.mem_range.1 hi)).2
   exact ⟨h4.good, h4.size⟩
  ·obtain ⟨hk, rfl⟩ := hget k g hg
   obtain ⟨h1, h2, h3⟩ := hcell k hk
   rw [h1] at hA
   injection hA with hA
   injection hA with e1 e2 _
   subst e1
   subst e2
   rw [h3] at hB
   injection hB with hB
   injection hB with e1 _ e3
   rw [← e3]
   exact (hF k hk).2.nil (e1.trans hn)
end
theorem bytesF : Tryz.prog.bytesOf 43 = 8 := by kernel_rfl
theorem bytesI : Tryz.prog.bytesOf 3 = 8 := by kernel_rfl
theorem bytesL : Tryz.prog.bytesOf 22 = 24 := by kernel_rfl
theorem cellsF : Tryz.prog.cellsOf 43 = 1 := by kernel_rfl
theorem cellsI : Tryz.prog.cellsOf 3 = 1 := by kernel_rfl
theorem cellsB : Tryz.prog.cellsOf 4 = 1 := by kernel_rfl
theorem cellsLI : Tryz.prog.cellsOf 23 = 1 := by kernel_rfl
theorem cellsL : Tryz.prog.cellsOf 22 = 1 := by kernel_rfl
theorem cellsLL : Tryz.prog.cellsOf 24 = 1 := by kernel_rfl
theorem cellsZ : Tryz.prog.cellsOf 26 = 6 := by kernel_rfl
def goodI (n : Int) : Prop := -9223372036854775808 ≤ n ∧ n ≤ 9223372036854775807
section
variable {H : Type} {enc : TypeId × Value → H} {w : World} {base : Nat} {spare : Nat → Bool} {held : Bool} {fuel : Nat}
theorem one_flt (n : Nat) (v : Value) (x : DataW H × List MemPlace) (h : DataW.trod enc Tryz.prog w base spare held n 43 [v] = some x) : ∃ u, v = cF u ∧ u < B64 := by
 obtain ⟨b, h1, h2⟩ := trod_flt Tryz.underlying43 h
 injection h1 with h1
 exact ⟨b, h1, h2⟩
theorem one_int (n : Nat) (v : Value) (x : DataW H × List MemPlace) (h : DataW.trod enc Tryz.prog w base spare held n 3 [v] = some x) : ∃ u, v = cI u ∧ goodI u := by
 obtain ⟨b, h1, h2⟩ := trod_int64 Tryz.underlying3 h
 injection h1 with h1
 exact ⟨b, h1, h2⟩
/-- A list of numbers that came in. -/
structure FIn (w : World) (A : Option Addr) (cap : Nat) (us : List Nat) : Prop where
 at_ : LAt cF w A cap us
 small : Small us
 most : us.length ≤ MAXF
theorem reach_F {n : Nat} (h : n * 8 ≤ reachBytes) : n ≤ MAXF := by unfold reachBytes at h; unfold MAXF; omega
theorem reach_L {n : Nat} (h : n * 24 ≤ reachBytes) : n ≤ MAXG := by unfold reachBytes at h; unfold MAXG; omega
theorem open_flts {cs : List Value} {x : DataW H × List MemPlace} (h : DataW.trod enc Tryz.prog w base spare held fuel 22 cs = some x) (hw : ∀ n ∈ x.1.weights Tryz.prog 22, n ≤ reachBytes) :
  ∃ A cap us, cs = [.slice A us.length cap] ∧ FIn w A cap us := by
 obtain ⟨A, cap, us, h1, h2⟩ := open_row cF (fun u => u < B64) Tryz.underlying22 cellsF one_flt h hw
 have h3 := h2.size
 rw [bytesF] at h3
 exact ⟨A, cap, us, h1, h2.lat, h2.good, reach_F h3⟩
/-- A list of whole numbers that came in. -/
structure IIn (w : World) (A : Option Addr) (cap : Nat) (zs : List Int) : Prop where
 at_ : LAt cI w A cap zs
 good : ∀ i ∈ zs, goodI i
 most : zs.length ≤ MAXF
theorem open_ints' {cs : List Value} {x : DataW H × List MemPlace} (h : DataW.trod enc Tryz.prog w base spare held fuel 23 cs = some x) (hw : ∀ n ∈ x.1.weights Tryz.prog 23, n ≤ reachBytes) :
  ∃ A cap zs, cs = [.slice A zs.length cap] ∧ IIn w A cap zs := by
 obtain ⟨A, cap, us, h1, h2⟩ := open_row cI goodI Tryz.underlying23 cellsI one_int h hw
 have h3 := h2.size
 rw [bytesI] at h3
 exact ⟨A, cap, us, h1, h2.lat, h2.good, reach_F h3⟩
/-- Lists of numbers that came in. -/
structure GIn (w : World) (C : Option Addr) (cap : Nat) (gs : List (List Nat)) : Prop where
 rows : GR w C gs
 len : gs.length ≤ cap
 most : cap ≤ maxLen
 nil : C = none → cap = 0
 size : gs.length ≤ MAXG
 each : ∀ g ∈ gs, Small g ∧ g.length ≤ MAXF
 room : GNil w C gs
theorem open_lists {cs : List Value} {x : DataW H × List MemPlace} (h : DataW.trod enc Tryz.prog w base spare held fuel 24 cs = some x) (hw : ∀ n ∈ x.1.weights Tryz.prog 24, n ≤ reachBytes) :
  ∃ A cap gs, cs = [.slice A gs.length cap] ∧ GIn w A cap gs := by
 obtain ⟨A, cap, gs, h1, h2, h3, h4, h5, h6, h7, h8⟩ := open_rows cF (fun u => u < B64) Tryz.underlying24 cellsL Tryz.underlying22 cellsF one_flt h hw
 rw [bytesL] at h6
 refine ⟨A, cap, gs, h1, h2, h3, h4, h5, reach_L h6, fun g hg => ?_, h8⟩
 obtain ⟨k1, k2⟩ := h7 g hg
 rw [bytesF] at k2
 exact ⟨k1, reach_F k2⟩
/-- A zonotope that came in. -/
def ZIn (w : World) (v : Value) (z : ZD) : Prop := ∃ A B C D kA kB kC kD, v = zval z A B C D kA kB kC kD ∧ ZCells w z A B C D kA kB kC kD ∧ ZOk z ∧ GNil w C z.g
theorem open_cells {cs : List Value} {x : DataW H × List MemPlace} (h : DataW.trod enc Tryz.prog w base spare held fuel 26 cs = some x) (hw : ∀ n ∈ x.1.weights Tryz.prog 26, n ≤ reachBytes) :
  ∃ z : ZD, ∃ A B C D kA kB kC kD, cs = [.int .i64 z.n, .slice A z.c.length kA, .slice B z.ids.length kB, .slice C z.g.length kC, .slice D z.r.length kD, .bool z.bad] ∧ ZCells w z A B C D kA kB kC kD ∧ ZOk z ∧ GNil w C z.g := by
 obtain ⟨xs, n, _, rfl, hl, hxs, hel⟩ := DataW.trod_struct Tryz.underlying26 h
 rw [cellsZ] at hl
 match cs, hl with
 | [c0, c1, c2, c3, c4, c5], _ =>
  match xs, hxs with
  | [x0, x1, x2, x3, x4, x5], _ =>
   have k0 : DataW.trod enc Tryz.prog w base spare held n 3 (List.take (Tryz.prog.cellsOf 3) (List.drop 0 [c0, c1, c2, c3, c4, c5])) = some x0 := hel 0 _ rfl
   have k1 : DataW.trod enc Tryz.prog w base spare held n 22 (List.take (Tryz.prog.cellsOf 22) (List.drop 1 [c0, c1, c2, c3, c4, c5])) = some x1 := hel 1 _ rfl
   have k2 : DataW.trod enc Tryz.prog w base spare held n 23 (List.take (Tryz.prog.cellsOf 23) (List.drop 2 [c0, c1, c2, c3, c4, c5])) = some x2 := hel 2 _ rfl
   have k3 : DataW.trod enc Tryz.prog w base spare held n 24 (List.take (Tryz.prog.cellsOf 24) (List.drop 3 [c0, c1, c2, c3, c4, c5])) = some x3 := hel 3 _ rfl
   have k4 : DataW.trod enc Tryz.prog w base spare held n 22 (List.take (Tryz.prog.cellsOf 22) (List.drop 4 [c0, c1, c2, c3, c4, c5])) = some x4 := hel 4 _ rfl
   have k5 : DataW.trod enc Tryz.prog w base spare held n 4 (List.take (Tryz.prog.cellsOf 4) (List.drop 5 [c0, c1, c2, c3, c4, c5])) = some x5 := hel 5 _ rfl
   rw [cellsI] at k0
   rw [cellsL] at k1 k4
   rw [cellsLI] at k2
   rw [cellsLL] at k3
   rw [cellsB] at k5
   have hwj : ∀ (j : Nat) (t : TypeId) (y : DataW H × List MemPlace), [3, 22, 23, 24, 22, 4][j]? = some t → [x0, x1, x2, x3, x4, x5][j]? = some y → ∀ m ∈ y.1.weights Tryz.prog t, m ≤ reachBytes := fun j t y ht hy m hm => hw m (by
    simp only [DataW.weights, Tryz.underlying26]
    refine DataW.weights_mem_each (j := j) (t := t) (d := y.1) ?_ ?_ m hm
    ·exact ht
    ·rw [List.getElem?_map, hy]; rfl)
   obtain ⟨n0, e0, n1, n2⟩ := trod_int64 Tryz.underlying3 k0
   obtain ⟨A, kA, us, e1, hA⟩ := open_flts k1 (hwj 1 _ _ rfl rfl)
   obtain ⟨B, kB, ids, e2, hB⟩ := open_ints' k2 (hwj 2 _ _ rfl rfl)
   obtain ⟨C, kC, gs, e3, hC⟩ := open_lists k3 (hwj 3 _ _ rfl rfl)
   obtain ⟨D, kD, rs, e4, hD⟩ := open_flts k4 (hwj 4 _ _ rfl rfl)
   obtain ⟨bd, e5⟩ := trod_bool' Tryz.underlying4 k5
   have f0 : [c0] = [Value.int .i64 n0] := e0
   have f1 : [c1] = [Value.slice A us.length kA] := e1
   have f2 : [c2] = [Value.slice B ids.length kB] := e2
   have f3 : [c3] = [Value.slice C gs.length kC] := e3
   have f4 : [c4] = [Value.slice D rs.length kD] := e4
   have f5 : [c5] = [Value.bool bd] := e5
   injection f0 with f0
   injection f1 with f1
   injection f2 with f2
   injection f3 with f3
   injection f4 with f4
   injection f5 with f5
   subst f0 f1 f2 f3 f4 f5
   exact ⟨⟨n0, us, ids, gs, rs, bd⟩, A, B, C, D, kA, kB, kC, kD, rfl, ⟨hA.at_.row, hB.at_.row, hC.rows, hD.at_.row, ⟨hA.at_.len, hA.at_.most, hA.at_.nil⟩, ⟨hB.at_.len, hB.at_.most, hB.at_.nil⟩, ⟨hC.len, hC.most, hC.nil⟩, ⟨hD.at_.len, hD.at_.most, hD.at_.nil⟩⟩,
    ⟨hA.small, hD.small, hC.each, hA.most, hD.most, hB.most, hC.size, n1, n2, hB.good⟩, hC.room⟩
theorem open_zono {v : Value} {x : DataW H × List MemPlace} {r : Reach} (hv : Value.okWide Tryz.prog w r base 26 v) (h : DataW.trod enc Tryz.prog w 0 spare held fuel 26 v.cells.toList = some x) (hw : ∀ n ∈ x.1.weights Tryz.prog 26, n ≤ reachBytes) : ∃ z, ZIn w v z := by
 obtain ⟨cs, rfl, _⟩ := okWide_struct Tryz.underlying26 hv
 obtain ⟨z, A, B, C, D, kA, kB, kC, kD, e, h1, h2, h3⟩ := open_cells h hw
 obtain ⟨l⟩ := cs
 have e : l = _ := e
 subst e
 exact ⟨z, A, B, C, D, kA, kB, kC, kD, rfl, h1, h2, h3⟩
end
theorem ZIn.is {w : World} {v : Value} {z : ZD} (h : ZIn w v z) : ZIs w v z := by
 obtain ⟨A, B, C, D, kA, kB, kC, kD, h1, h2, h3, h4⟩ := h
 exact ⟨A, B, C, D, kA, kB, kC, kD, h1, h2⟩
theorem ZIn.ok {w : World} {v : Value} {z : ZD} (h : ZIn w v z) : ZOk z := by
 obtain ⟨A, B, C, D, kA, kB, kC, kD, h1, h2, h3, h4⟩ := h
 exact h3
end Go.Proofs.YtpfbgenefjhcjaaGreatDoor
