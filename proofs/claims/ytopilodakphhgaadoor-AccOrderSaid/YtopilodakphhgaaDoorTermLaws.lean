/- append of rows of terms: at a step of a region that draws, and in straight code. -/
import Derived.Test.YtopilodakphhgaaDoorTermRows
import Derived.Deep.RegionLaw
import Derived.Laws.AppendOwnNone
namespace Go.Proofs.YtopilodakphhgaaDoor
set_option linter.unusedVariables false
set_option linter.unusedSimpArgs false
open Go Go.RowKit
set_option maxRecDepth 100000
theorem OwnT.kept {w w' : World} {base : Nat} {v : Value} {us : List Trm} {row : Option Nat} (h : OwnT w base v us) (hg : w.grownBy w' row) (hne : v.ownBlock = none ∨ v.ownBlock ≠ row) : OwnT w' base v us := World.ownsRow.kept h hg hne
theorem OwnT.lt {w : World} {base : Nat} {v : Value} {us : List Trm} (h : OwnT w base v us) : ∀ k, v.ownBlock = some k → base ≤ k ∧ k < w.heap.size := World.ownsRow.lt h
theorem OwnT.nil (w : World) (base : Nat) : OwnT w base (.slice none 0 0) [] := World.ownsRow_nil _ _ _ _
/-- The terms as they lie in memory. -/
def TRow (w : World) (A : Option Addr) (ts : List Trm) : Prop := ∀ (j : Nat) (t : Trm), ts[j]? = some t → ∃ b o : Nat, A = some ⟨b, o, none⟩ ∧ b < w.heap.size ∧ w.cell? ⟨b, o + j * 3, none⟩ = some (.int .u64 (t.a : Nat)) ∧ w.cell? ⟨b, o + j * 3 + 1, none⟩ = some (.int .u64 (t.b : Nat)) ∧ w.cell? ⟨b, o + j * 3 + 2, none⟩ = some (.int .i64 t.n) ∧ t.a < B64 ∧ t.b < B64 ∧ -9223372036854775808 ≤ t.n ∧ t.n ≤ 9223372036854775807
theorem TRow.at {w wr : World} {A : Option Addr} {ts : List Trm} (h : TRow w A ts) (hb : Below w.heap.size w wr) (j : Nat) (t : Trm) (hj : ts[j]? = some t) : ∃ b o : Nat, A = some ⟨b, o, none⟩ ∧ b < w.heap.size ∧ wr.cell? ⟨b, o + j * 3, none⟩ = some (.int .u64 (t.a : Nat)) ∧ wr.cell? ⟨b, o + j * 3 + 1, none⟩ = some (.int .u64 (t.b : Nat)) ∧ wr.cell? ⟨b, o + j * 3 + 2, none⟩ = some (.int .i64 t.n) ∧ t.a < B64 ∧ t.b < B64 ∧ -9223372036854775808 ≤ t.n ∧ t.n ≤ 9223372036854775807 := by
  obtain ⟨b, o, h1, h2, h3, h4, h5, h6⟩ := h j t hj
  exact ⟨b, o, h1, h2, by rw [hb.cell h2]; exact h3, by rw [hb.cell h2]; exact h4, by rw [hb.cell h2]; exact h5, h6⟩
theorem below_ownT {w0 w1 : World} {base : Nat} {v : Value} {us : List Trm} (h : OwnT w0 base v us) (hg : w0.grownBy w1 v.ownBlock) (hb : base ≤ w0.heap.size) : Below base w0 w1 :=
  ⟨hg.os, hg.tape, hg.output, by have := hg.size; omega, fun k hk => hg.block k (by omega) (fun e => by have := (h.lt k e.symm).1; omega)⟩
/-- append of a row of terms that lies in memory (nil or not), at a step of a region that draws. -/
theorem step_append_t {ops : Array Oper} {o : Oper} {a : Act} {w : World} {K : Act → World → Prop} {Q : Exit → Act → World → Prop} {E : Prop} (hgd : o.guard = none) (s x : Operand)
    (ho : o.op = .call { callee := .builtin .append, args := #[s, x], argTypes := #[51, 51] })
    (base : Nat) (v : Value) (us vs : List Trm) (hs : a.eval s = v) (hown : OwnT w base v us)
    (ad : Addr) (m c : Nat) (hx : a.eval x = .slice (some ad) m c) (hl : vs.length = m) (hnews : ∀ j u, (trms vs)[j]? = some u → w.cell? (ad.add j) = some u)
    (h63 : us.length + m ≤ 1000000) (hbase : base ≤ w.heap.size)
    (h : ∀ v' w', OwnT w' base v' (us ++ vs) → w.grownBy w' v.ownBlock → (v'.ownBlock = v.ownBlock ∨ v'.ownBlock = some w.heap.size) → K (a.put o.dst v') w') :
    if Region.wanted o (yielded ops a.tmps) = true then Oper.wp Tryd.prog o a w K Q else E := by
  obtain ⟨i0, hi0, hz0, hz1, hz2⟩ := info_parts infoT
  have hw : Region.wanted o (yielded ops a.tmps) = true := by simp [Region.wanted, hgd]
  rw [if_pos hw]
  obtain ⟨v', w', hr, h2, h3, _, h5⟩ := run_append_own_at (P := Tryd.prog) w base 51 o.type 56 i0 _ 3 24 Tryd.underlying51 hi0 hz0 hz1 hz2 rfl (by omega) v us.length (trms us) hown ad m c (trms vs) (by rw [trms_length, hl]) hnews (trms_one vs) (by unfold maxLen; omega) (by omega) hbase
  unfold Oper.wp execOp
  simp only [ho, resolve, invoke, builtin, Sem.run_bind, Sem.run_pure, Result.andThen_ok, List.map_toArray, List.map_cons, List.map_nil, hs, hx, hr]
  refine h v' w' ?_ h3 h5
  unfold OwnT
  rw [trms_append, List.length_append, hl]
  exact h2
/-- A row of terms of the call's own, as a value: nil; or a block that holds it. -/
theorem OwnT.row {w : World} {base : Nat} {v : Value} {us : List Trm} (h : OwnT w base v us) : (v = .slice none 0 0 ∧ us = []) ∨ ∃ g cap, v = .slice (some ⟨g, 0, none⟩) us.length cap ∧ base ≤ g ∧ g < w.heap.size ∧ us.length ≤ cap ∧ cap ≤ maxLen ∧ ∀ j u, (trms us)[j]? = some u → w.cell? ⟨g, j, none⟩ = some u := by
  obtain ⟨h1, h2⟩ := h
  rcases h2 with ⟨rfl, h0⟩ | ⟨g, cap, cur, rfl, hb, hg, hn, hm, hs, hc⟩
  · exact Or.inl ⟨rfl, List.eq_nil_of_length_eq_zero h0⟩
  · refine Or.inr ⟨g, cap, rfl, hb, ?_, hn, hm, fun j u hu => ?_⟩
    · rcases Nat.lt_or_ge g w.heap.size with hlt | hge
      · exact hlt
      · rw [Array.getElem?_eq_none hge] at hg; cases hg
    · rw [cell_of_row w g j _ _ _ hg]
      rw [← hc, List.getElem?_take] at hu
      split at hu
      · simpa using hu
      · cases hu
/-- The cells of a row of terms. -/
def TCells (w : World) (A : Option Addr) (cap : Nat) (us : List Trm) : Prop := (A = none ∧ us = [] ∧ cap = 0) ∨ ∃ g, A = some ⟨g, 0, none⟩ ∧ g < w.heap.size ∧ ∀ j u, (trms us)[j]? = some u → w.cell? ((⟨g, 0, none⟩ : Addr).add j) = some u
theorem add_zero_off (g j : Nat) : (⟨g, 0, none⟩ : Addr).add j = ⟨g, j, none⟩ := by unfold Addr.add; split <;> simp_all
theorem TCells.below {w w' : World} {A : Option Addr} {cap : Nat} {us : List Trm} (h : TCells w A cap us) (hb : Below w.heap.size w w') : TCells w' A cap us := by
  rcases h with h | ⟨g, h1, h2, h3⟩
  · exact Or.inl h
  · refine Or.inr ⟨g, h1, Nat.lt_of_lt_of_le h2 hb.size, fun j u hj => ?_⟩
    rw [hb.cell (by rw [add_block]; exact h2)]
    exact h3 j u hj
theorem OwnT.trow {w : World} {base : Nat} {v : Value} {us : List Trm} (h : OwnT w base v us) (hB : ∀ t ∈ us, t.a < B64 ∧ t.b < B64 ∧ -9223372036854775808 ≤ t.n ∧ t.n ≤ 9223372036854775807) : ∃ A cap, v = .slice A us.length cap ∧ us.length ≤ cap ∧ cap ≤ maxLen ∧ TRow w A us ∧ TCells w A cap us := by
  rcases h.row with ⟨rfl, rfl⟩ | ⟨g, cap, rfl, hb, hg, hn, hm, hc⟩
  · exact ⟨none, 0, rfl, Nat.le_refl _, Nat.zero_le _, fun j t hj => by simp at hj, Or.inl ⟨rfl, rfl, rfl⟩⟩
  · refine ⟨_, cap, rfl, hn, hm, fun j t hj => ?_, Or.inr ⟨g, rfl, hg, fun j u hj => by rw [add_zero_off]; exact hc j u hj⟩⟩
    obtain ⟨c0, c1, c2⟩ := trms_get us j t hj
    obtain ⟨b0, b1, b2, b3⟩ := hB t (List.mem_of_getElem? hj)
    exact ⟨g, 0, rfl, hg, by rw [show 0 + j * 3 = 3 * j by omega]; exact hc _ _ c0, by rw [show 0 + j * 3 + 1 = 3 * j + 1 by omega]; exact hc _ _ c1, by rw [show 0 + j * 3 + 2 = 3 * j + 2 by omega]; exact hc _ _ c2, b0, b1, b2, b3⟩
/-- append of a row of terms that lies in memory, in straight code. -/
theorem wpList_append_t {ops : Array Oper} {rest : List Oper} {o : Oper} {a : Act} {w : World} {Q : Exit → Act → World → Prop} (hgd : o.guard = none) (s x : Operand)
    (ho : o.op = .call { callee := .builtin .append, args := #[s, x], argTypes := #[51, 51] })
    (base : Nat) (v : Value) (us vs : List Trm) (hs : a.eval s = v) (hown : OwnT w base v us)
    (ad : Addr) (m c : Nat) (hx : a.eval x = .slice (some ad) m c) (hl : vs.length = m) (hnews : ∀ j u, (trms vs)[j]? = some u → w.cell? (ad.add j) = some u)
    (h63 : us.length + m ≤ 1000000) (hbase : base ≤ w.heap.size)
    (h : ∀ v' w', OwnT w' base v' (us ++ vs) → w.grownBy w' v.ownBlock → (v'.ownBlock = v.ownBlock ∨ v'.ownBlock = some w.heap.size) → wpList Tryd.prog ops Q rest (a.put o.dst v') w') :
    wpList Tryd.prog ops Q (o :: rest) a w := by
  obtain ⟨i0, hi0, hz0, hz1, hz2⟩ := info_parts infoT
  refine wpList_append_own_at w hgd s x 51 ho base 56 i0 _ 3 24 Tryd.underlying51 hi0 hz0 hz1 hz2 rfl (by omega) v us.length (trms us) hs hown ad m c (trms vs) hx (by rw [trms_length, hl]) hnews (trms_one vs) (by unfold maxLen; omega) (by omega) hbase fun v' w' h2 h3 h4 h5 => h v' w' ?_ h3 h5
  unfold OwnT
  rw [trms_append, List.length_append, hl]
  exact h2
end Go.Proofs.YtopilodakphhgaaDoor
