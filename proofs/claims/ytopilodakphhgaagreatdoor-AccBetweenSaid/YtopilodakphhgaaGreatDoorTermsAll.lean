/- Rows of terms that a call makes by append. append of rows of terms: at a step of a region that draws, and in straight code. ambitlaw3.terms: the terms of numbers, at most 200 looked at, each power brought below 65. -/
import Derived.Test.YtopilodakphhgaaGreatDoorInto
import Derived.Laws.AppendOwn
import Derived.Laws.OwnMore
import Derived.Deep.RegionLaw
import Derived.Laws.AppendOwnNone
import Derived.Deep.RegionHeld3
import Derived.Deep.AppendLies
namespace Go.Proofs.YtopilodakphhgaaGreatDoor
set_option linter.unusedVariables false
set_option linter.unusedSimpArgs false
open Go Go.RowKit
set_option maxRecDepth 100000
/-- A term: two floats by their bits, and a power. -/
structure Trm where
  a : Nat
  b : Nat
  n : Int
def Trm.cells (t : Trm) : List Value := [.int .u64 (t.a : Nat), .int .u64 (t.b : Nat), .int .i64 t.n]
def trms (ts : List Trm) : List Value := ts.flatMap Trm.cells
theorem trms_length (ts : List Trm) : (trms ts).length = ts.length * 3 := by
  induction ts with
  | nil => rfl
  | cons t r ih => simp only [trms, List.flatMap_cons, List.length_append, List.length_cons] at *; rw [ih]; simp [Trm.cells]; omega
theorem trms_append (ts us : List Trm) : trms (ts ++ us) = trms ts ++ trms us := by simp [trms]
theorem trms_one (ts : List Trm) : ∀ v ∈ trms ts, v.oneCell' = true := by
  intro v hv
  simp only [trms, List.mem_flatMap, Trm.cells] at hv
  obtain ⟨t, _, ht⟩ := hv
  simp at ht
  rcases ht with rfl | rfl | rfl <;> rfl
theorem trms_get (ts : List Trm) (j : Nat) (t : Trm) (h : ts[j]? = some t) : (trms ts)[3 * j]? = some (.int .u64 (t.a : Nat)) ∧ (trms ts)[3 * j + 1]? = some (.int .u64 (t.b : Nat)) ∧ (trms ts)[3 * j + 2]? = some (.int .i64 t.n) := by
  induction ts generalizing j with
  | nil => simp at h
  | cons u r ih =>
    have e : trms (u :: r) = Trm.cells u ++ trms r := rfl
    cases j with
    | zero =>
      cases h
      rw [e]
      exact ⟨rfl, rfl, rfl⟩
    | succ j =>
      have := ih j h
      rw [e, show 3 * (j + 1) = 3 + 3 * j by omega, show 3 + 3 * j + 1 = 3 + (3 * j + 1) by omega, show 3 + 3 * j + 2 = 3 + (3 * j + 2) by omega]
      have hl : (Trm.cells u).length = 3 := rfl
      rw [List.getElem?_append_right (by omega), List.getElem?_append_right (by omega), List.getElem?_append_right (by omega), hl, Nat.add_sub_cancel_left, Nat.add_sub_cancel_left, Nat.add_sub_cancel_left]
      exact this
theorem infoT : (Tryz.prog.info? 33).map (fun i => (i.zero, i.size, i.bytes)) = Option.some (Option.some (.agg #[.int .u64 0, .int .u64 0, .int .i64 0]), 3, 24) := by kernel_rfl
/-- A slice of terms of the call's own. -/
def OwnT (w : World) (base : Nat) (v : Value) (ts : List Trm) : Prop := w.ownsRow base 33 3 v ts.length (trms ts)
set_option linter.unusedVariables false
set_option linter.unusedSimpArgs false
open Go Go.RowKit
set_option maxRecDepth 100000
theorem OwnT.kept {w w' : World} {base : Nat} {v : Value} {us : List Trm} {row : Option Nat} (h : OwnT w base v us) (hg : w.grownBy w' row) (hne : v.ownBlock = none ∨ v.ownBlock ≠ row) : OwnT w' base v us := World.ownsRow.kept h hg hne
theorem OwnT.lt {w : World} {base : Nat} {v : Value} {us : List Trm} (h : OwnT w base v us) : ∀ k, v.ownBlock = some k → base ≤ k ∧ k < w.heap.size := World.ownsRow.lt h
theorem OwnT.nil (w : World) (base : Nat) : OwnT w base (.slice none 0 0) [] := World.ownsRow_nil _ _ _ _
/-- The terms as they lie in memory. -/
def TRow (w : World) (A : Option Addr) (ts : List Trm) : Prop := ∀ (j : Nat) (t : Trm), ts[j]? = some t → ∃ b o : Nat, A = some ⟨b, o, none⟩ ∧ b < w.heap.size ∧ w.cell? ⟨b, o + j * 3, none⟩ = some (.int .u64 (t.a : Nat)) ∧ w.cell? ⟨b, o + j * 3 + 1, none⟩ = some (.int .u64 (t.b : Nat)) ∧ w.cell? ⟨b, o + j * 3 + 2, none⟩ = some (.int .i64 t.n) ∧ t.a < B64 ∧ t.b < B64 ∧ -9223372036854775808 ≤ t.n ∧ t.n ≤ 9223372036854775807
theorem TRow.at {w wr : World} {A : Option Addr} {ts : List Trm} (h : TRow w A ts) (hb : Below w.heap.size w wr) (j : Nat) (t : Trm) (hj : ts[j]? = some t) : ∃ b o : Nat, A = some ⟨b, o, none⟩ ∧ b < w.heap.size ∧ wr.cell? ⟨b, o + j * 3, none⟩ = some (.int .u64 (t.a : Nat)) ∧ wr.cell? ⟨b, o + j * 3 + 1, none⟩ = some (.int .u64 (t.b : Nat)) ∧ wr.cell? ⟨b, o + j * 3 + 2, none⟩ = some (.int .i64 t.n) ∧ t.a < B64 ∧ t.b < B64 ∧ -9223372036854775808 ≤ t.n ∧ t.n ≤ 9223372036854775807 := by
  obtain ⟨b, o, h1, h2, h3, h4, h5, h6⟩ := h j t hj
  exact ⟨b, o, h1, h2, by rw [hb.cell h2]; exact h3, by rw [hb.cell h2]; exact h4, by rw [hb.cell h2]; exact h5, h6⟩
theorem below_ownT {w0 w1 : World} {base : Nat} {v : Value} {us : List Trm} (h : OwnT w0 base v us) (hg : w0.grownBy w1 v.ownBlock) (hb : base ≤ w0.heap.size) : Below base w0 w1 :=
  ⟨hg.os, hg.tape, hg.output, by have := hg.size; omega, fun k hk => hg.block k (by omega) (fun e => by have := (h.lt k e.symm).1; omega)⟩
/-- append of a row of terms that lies in memory (nil or not), at a step of a region that draws. -/
theorem step_append_t {ops : Array Oper} {o : Oper} {a : Act} {w : World} {K : Act → World → Prop} {Q : Exit → Act → World → Prop} {E : Prop} (hgd : o.guard = none) (s x : Operand)
    (ho : o.op = .call { callee := .builtin .append, args := #[s, x], argTypes := #[22, 22] })
    (base : Nat) (v : Value) (us vs : List Trm) (hs : a.eval s = v) (hown : OwnT w base v us)
    (ad : Addr) (m c : Nat) (hx : a.eval x = .slice (some ad) m c) (hl : vs.length = m) (hnews : ∀ j u, (trms vs)[j]? = some u → w.cell? (ad.add j) = some u)
    (h63 : us.length + m ≤ 1000000) (hbase : base ≤ w.heap.size)
    (h : ∀ v' w', OwnT w' base v' (us ++ vs) → w.grownBy w' v.ownBlock → (v'.ownBlock = v.ownBlock ∨ v'.ownBlock = some w.heap.size) → K (a.put o.dst v') w') :
    if Region.wanted o (yielded ops a.tmps) = true then Oper.wp Tryz.prog o a w K Q else E := by
  obtain ⟨i0, hi0, hz0, hz1, hz2⟩ := info_parts infoT
  have hw : Region.wanted o (yielded ops a.tmps) = true := by simp [Region.wanted, hgd]
  rw [if_pos hw]
  obtain ⟨v', w', hr, h2, h3, _, h5⟩ := run_append_own_at (P := Tryz.prog) w base 22 o.type 33 i0 _ 3 24 Tryz.underlying22 hi0 hz0 hz1 hz2 rfl (by omega) v us.length (trms us) hown ad m c (trms vs) (by rw [trms_length, hl]) hnews (trms_one vs) (by unfold maxLen; omega) (by omega) hbase
  unfold Oper.wp execOp
  simp only [ho, resolve, invoke, builtin, Sem.run_bind, Sem.run_pure, Result.andThen_ok, List.map_toArray, List.map_cons, List.map_nil, hs, hx, hr]
  refine h v' w' ?_ h3 h5
  unfold OwnT
  rw [trms_append, List.length_append, hl]
  exact h2
/-- A row of terms of the call's own, as a value: nil; or a block that holds it. -/
theorem OwnT.row {w : World} {base : Nat} {v : Value} {us : List Trm} (h : OwnT w base v us) : (v = .slice none 0 0 ∧ us = []) ∨ ∃ g cap, v = .slice (some ⟨g, 0, none⟩) us.length cap ∧ base ≤ g ∧ g < w.heap.size ∧ us.length ≤ cap ∧ cap ≤ maxLen ∧ ∀ j u, (trms us)[j]? = some u → w.cell? ⟨g, j, none⟩ = some u := by
  obtain ⟨h1, h2⟩ := h
  rcases h2 with ⟨rfl, h0⟩ | ⟨g, cap, cur, rfl, hb, hg, hn, hm, hs, hc⟩
  · exact Or.inl ⟨rfl, List.eq_nil_of_length_eq_zero h0⟩
  · refine Or.inr ⟨g, cap, rfl, hb, ?_, hn, hm, fun j u hu => ?_⟩
    · rcases Nat.lt_or_ge g w.heap.size with hlt | hge
      · exact hlt
      · rw [Array.getElem?_eq_none hge] at hg; cases hg
    · rw [cell_of_row w g j _ _ _ hg]
      rw [← hc, List.getElem?_take] at hu
      split at hu
      · simpa using hu
      · cases hu
/-- The cells of a row of terms. -/
def TCells (w : World) (A : Option Addr) (cap : Nat) (us : List Trm) : Prop := (A = none ∧ us = [] ∧ cap = 0) ∨ ∃ g, A = some ⟨g, 0, none⟩ ∧ g < w.heap.size ∧ ∀ j u, (trms us)[j]? = some u → w.cell? ((⟨g, 0, none⟩ : Addr).add j) = some u
theorem add_zero_off (g j : Nat) : (⟨g, 0, none⟩ : Addr).add j = ⟨g, j, none⟩ := by unfold Addr.add; split <;> simp_all
theorem TCells.below {w w' : World} {A : Option Addr} {cap : Nat} {us : List Trm} (h : TCells w A cap us) (hb : Below w.heap.size w w') : TCells w' A cap us := by
  rcases h with h | ⟨g, h1, h2, h3⟩
  · exact Or.inl h
  · refine Or.inr ⟨g, h1, Nat.lt_of_lt_of_le h2 hb.size, fun j u hj => ?_⟩
    rw [hb.cell (by rw [add_block]; exact h2)]
    exact h3 j u hj
theorem OwnT.trow {w : World} {base : Nat} {v : Value} {us : List Trm} (h : OwnT w base v us) (hB : ∀ t ∈ us, t.a < B64 ∧ t.b < B64 ∧ -9223372036854775808 ≤ t.n ∧ t.n ≤ 9223372036854775807) : ∃ A cap, v = .slice A us.length cap ∧ us.length ≤ cap ∧ cap ≤ maxLen ∧ TRow w A us ∧ TCells w A cap us := by
  rcases h.row with ⟨rfl, rfl⟩ | ⟨g, cap, rfl, hb, hg, hn, hm, hc⟩
  · exact ⟨none, 0, rfl, Nat.le_refl _, Nat.zero_le _, fun j t hj => by simp at hj, Or.inl ⟨rfl, rfl, rfl⟩⟩
  · refine ⟨_, cap, rfl, hn, hm, fun j t hj => ?_, Or.inr ⟨g, rfl, hg, fun j u hj => by rw [add_zero_off]; exact hc j u hj⟩⟩
    obtain ⟨c0, c1, c2⟩ := trms_get us j t hj
    obtain ⟨b0, b1, b2, b3⟩ := hB t (List.mem_of_getElem? hj)
    exact ⟨g, 0, rfl, hg, by rw [show 0 + j * 3 = 3 * j by omega]; exact hc _ _ c0, by rw [show 0 + j * 3 + 1 = 3 * j + 1 by omega]; exact hc _ _ c1, by rw [show 0 + j * 3 + 2 = 3 * j + 2 by omega]; exact hc _ _ c2, b0, b1, b2, b3⟩
/-- append of a row of terms that lies in memory, in straight code. -/
theorem wpList_append_t {ops : Array Oper} {rest : List Oper} {o : Oper} {a : Act} {w : World} {Q : Exit → Act → World → Prop} (hgd : o.guard = none) (s x : Operand)
    (ho : o.op = .call { callee := .builtin .append, args := #[s, x], argTypes := #[22, 22] })
    (base : Nat) (v : Value) (us vs : List Trm) (hs : a.eval s = v) (hown : OwnT w base v us)
    (ad : Addr) (m c : Nat) (hx : a.eval x = .slice (some ad) m c) (hl : vs.length = m) (hnews : ∀ j u, (trms vs)[j]? = some u → w.cell? (ad.add j) = some u)
    (h63 : us.length + m ≤ 1000000) (hbase : base ≤ w.heap.size)
    (h : ∀ v' w', OwnT w' base v' (us ++ vs) → w.grownBy w' v.ownBlock → (v'.ownBlock = v.ownBlock ∨ v'.ownBlock = some w.heap.size) → wpList Tryz.prog ops Q rest (a.put o.dst v') w') :
    wpList Tryz.prog ops Q (o :: rest) a w := by
  obtain ⟨i0, hi0, hz0, hz1, hz2⟩ := info_parts infoT
  refine wpList_append_own_at w hgd s x 22 ho base 33 i0 _ 3 24 Tryz.underlying22 hi0 hz0 hz1 hz2 rfl (by omega) v us.length (trms us) hs hown ad m c (trms vs) hx (by rw [trms_length, hl]) hnews (trms_one vs) (by unfold maxLen; omega) (by omega) hbase fun v' w' h2 h3 h4 h5 => h v' w' ?_ h3 h5
  unfold OwnT
  rw [trms_append, List.length_append, hl]
  exact h2
set_option linter.unusedVariables false
set_option linter.unusedSimpArgs false
open Go Go.RowKit
set_option maxRecDepth 100000
def okT (t : Trm) : Bool := fexp t.a != 2047 && fexp t.b != 2047
def cutT (t : Trm) : Trm := ⟨t.a, t.b, t.n.tmod 65⟩
def pickT (ts : List Trm) : List Trm := (ts.filter okT).map cutT
theorem pickT_next (ts : List Trm) (k : Nat) (t : Trm) (h : ts[k]? = some t) : pickT (ts.take (k + 1)) = pickT (ts.take k) ++ (bif okT t then [cutT t] else []) := by
  rw [List.take_add_one, h]
  unfold pickT
  rw [List.filter_append, List.map_append]
  show _ ++ List.map cutT (List.filter okT [t]) = _
  rw [List.filter_cons]
  cases okT t <;> rfl
theorem pickT_length (ts : List Trm) (k : Nat) : (pickT (ts.take k)).length ≤ k := by
  unfold pickT
  rw [List.length_map]
  have := List.length_filter_le okT (ts.take k)
  rw [List.length_take] at this
  omega
set_option maxHeartbeats 8000000 in
theorem terms_any (w : World) (A : Option Addr) (n cap : Nat) (ts : List Trm) (hrow : TRow w A ts) (hls : ts.length = n) (hc : n ≤ cap) (hm : cap ≤ maxLen) :
    Calls Tryz.prog 5 #[.slice A n cap] w fun e w' => ∃ v, e = .returned v ∧ OwnT w' w.heap.size v (pickT (ts.take 200)) ∧ Below w.heap.size w w' := by
  have hNn : n = ts.length := hls.symm
  have hnl : (n : Int) ≤ 9223372036854775807 := by unfold maxLen at hm; omega
  have HL := Lib.hid hls
  obtain ⟨i0, hi0, hz0, hz1, hz2⟩ := info_parts infoT
  clear hls
  go_enter Tryz.func5, Tryz.ntmps5
  go_wp2_with fail
  go_loopw [3, 4] (fun v i wr => ∃ k : Nat, k ≤ n ∧ k ≤ 200 ∧ i = .int .i64 (k : Nat) ∧ OwnT wr w.heap.size v (pickT (ts.take k)) ∧ Below w.heap.size w wr) (fun _ i _ => 200 - (intOf i).toNat)
  case atStart => exact ⟨0, by omega, by omega, rfl, World.ownsRow_nil _ _ _ _, Below.refl _ _⟩
  case round =>
    obtain ⟨k, hk, hk2, rfl, hr, hbl⟩ := hrel
    by_cases hlt : k < n ∧ k < 200
    · obtain ⟨hlt1, hlt2⟩ := hlt
      have hlt1' : (k : Int) < (n : Int) := by omega
      have hlt2' : (k : Int) < 200 := by omega
      obtain ⟨t, ht⟩ : ∃ t, ts[k]? = some t := ⟨ts[k]'(by omega), List.getElem?_eq_getElem _⟩
      obtain ⟨b, o, rfl, hbk, c0, c1, c2, hA, hB, hn0, hn1⟩ := hrow.at hbl k t ht
      have HV := Lib.hid (pickT_next ts k t ht)
      have hlen := pickT_length ts k
      have hnum := number_law t.a hA
      have hnum2 := number_law t.b hB
      have hal : (t.a : Int) ≤ 18446744073709551615 := by unfold B64 at hA; omega
      have hbl' : (t.b : Int) ≤ 18446744073709551615 := by unfold B64 at hB; omega
      have hk0 : (0 : Int) ≤ (k : Int) := by omega
      by_cases ha : fexp t.a = 2047
      · have hn' : (fexp t.a != 2047) = false := by rw [ha]; rfl
        have hok : okT t = false := by unfold okT; rw [hn']; rfl
        rw [hn'] at hnum
        clear ha hn' hNn hk hk2 hA hB
        go_wp2_with fail
        refine (hnum _).mono ?_
        rintro e w' ⟨rfl, rfl⟩
        go_wp2_with fail
        go_roundw
        case rel => exact ⟨k + 1, by omega, by omega, by go_num, by rw [HV.out, hok]; simpa using hr, hbl⟩
        case measure => simp [intOf]; omega
      · have hn' : (fexp t.a != 2047) = true := by rw [bne_iff_ne]; exact ha
        rw [hn'] at hnum
        by_cases hb : fexp t.b = 2047
        · have hn2' : (fexp t.b != 2047) = false := by rw [hb]; rfl
          have hok : okT t = false := by unfold okT; rw [hn', hn2']; rfl
          rw [hn2'] at hnum2
          clear ha hn' hb hn2' hNn hk hk2 hA hB
          go_wp2_with fail
          refine (hnum _).mono ?_
          rintro e w' ⟨rfl, rfl⟩
          go_wp2_with fail
          refine (hnum2 _).mono ?_
          rintro e w' ⟨rfl, rfl⟩
          go_wp2_with fail
          go_roundw
          case rel => exact ⟨k + 1, by omega, by omega, by go_num, by rw [HV.out, hok]; simpa using hr, hbl⟩
          case measure => simp [intOf]; omega
        · have hn2' : (fexp t.b != 2047) = true := by rw [bne_iff_ne]; exact hb
          have hok : okT t = true := by unfold okT; rw [hn', hn2']; rfl
          rw [hn2'] at hnum2
          clear ha hn' hb hn2' hNn hk hk2 hA hB
          go_wp2_with fail
          refine (hnum _).mono ?_
          rintro e w' ⟨rfl, rfl⟩
          go_wp2_with fail
          refine (hnum2 _).mono ?_
          rintro e w' ⟨rfl, rfl⟩
          go_wp2_with fail
          have hsz := hbl.size
          have hne : some b ≠ Value.ownBlock u3 := fun e => by have := (hr.lt b e.symm).1; omega
          have hlB : (pickT (ts.take k)).length + 1 ≤ 1000000 := by omega
          go_region_held3 (fun w' => w'.cell? ⟨b, o + k * 3, none⟩ = some (.int .u64 (t.a : Nat)) ∧ w'.cell? ⟨b, o + k * 3 + 1, none⟩ = some (.int .u64 (t.b : Nat)) ∧ w'.cell? ⟨b, o + k * 3 + 2, none⟩ = some (.int .i64 t.n))
            (first
              | go_keep
              | (go_split_ands
                 refine ⟨?_, ?_, ?_⟩ <;> (rw [hgrow.cell_far _ (by simp; omega) hne]; assumption)))
            ((refine step_append_t (by rfl) _ _ (by rfl) w.heap.size _ (pickT (ts.take k)) [cutT t] (by rfl) ((World.ownsRow.alloc hr _).drew) ⟨w'.heap.size, 0, none⟩ 1 1 (by rfl) rfl (World.news_of_block (cs := #[.int .u64 (t.a : Nat), .int .u64 (t.b : Nat), .int .i64 (t.n.tmod 65)]) (t := 33) (fr := (0, 0)) (heap_alloc_new _ _)) hlB (by simp; omega) ?_; intro v2 w2 hown2 hgrow hat))
          have hbl2 := ((hbl.alloc hsz (.cells #[.int .u64 (t.a : Nat), .int .u64 (t.b : Nat), .int .i64 (t.n.tmod 65)] 33)).drew).trans (below_ownT ((World.ownsRow.alloc hr _).drew) hgrow (by simp; omega))
          clear hgrow hat
          go_wp2_with fail
          go_roundw
          case rel => exact ⟨k + 1, by omega, by omega, by go_num, by rw [HV.out, hok]; exact hown2, hbl2⟩
          case measure => simp [intOf]; omega
    · have hfin : pickT (ts.take 200) = pickT (ts.take k) := by
        by_cases h200 : k = 200
        · rw [h200]
        · have hkn : k = n := by omega
          rw [List.take_of_length_le (show ts.length ≤ 200 by omega), List.take_of_length_le (show ts.length ≤ k by omega)]
      by_cases hkn : k < n
      · have hkn' : (k : Int) < (n : Int) := by omega
        have hk200 : decide ((k : Int) < 200) = false := by simp; omega
        clear hlt
        go_wp2_with fail
        go_ret
        exact ⟨_, rfl, by rw [hfin]; exact hr, hbl⟩
      · have hkn' : decide ((k : Int) < (n : Int)) = false := by simp; omega
        clear hlt
        go_wp2_with fail
        go_ret
        exact ⟨_, rfl, by rw [hfin]; exact hr, hbl⟩
end Go.Proofs.YtopilodakphhgaaGreatDoor
