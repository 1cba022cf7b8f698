/-
 zono.columns: an iterator over a zonotope's columns; its contract.
 A region that draws its order, in a round of a loop over an iterator: out of the plain walk.
 (*Acc).Abs; zono.along: the product of a direction and a list.
 zono.reach: how far a coordinate may go.
-/
import Derived.Test.YtpfbgenefjhcjaaGreatDoorPZoLow
import Derived.Test.YtpfbgenefjhcjaaGreatDoorPAccJs
import Derived.RangeFuncNested
import Derived.RangeFuncBound
import Derived.RangeFuncCalls
import Derived.RangeFuncLeaves
import Derived.RangeFuncFrom
import Derived.Shelf.Abstract
import Derived.Shelf.RegionOpen
import Derived.WalkKit
import Derived.OwnWalkIn
import Derived.TacticsInMore
import Derived.LoopNIn
import Derived.LoopIn
import Derived.StillTail
import Derived.StillTailTactics
import Derived.OrdersIn
import Derived.TacticsIn
import Derived.Deep.MidRow
namespace Go.Proofs.YtpfbgenefjhcjaaGreatDoor
set_option linter.unusedVariables false
set_option linter.unusedSimpArgs false
open Go Go.RowKit Go.Shelf
attribute [local go_sem] Oper.semAt_some
set_option maxRecDepth 100000
/-- What a round keeps: whatever lay before the call; and the block Bs. -/
def KB (n₀ Bs : Nat) (W W' : World) : Prop := Below n₀ W W' ∧ (Bs < W.heap.size → W'.heap[Bs]? = W.heap[Bs]?)
theorem KB.trans {n₀ Bs : Nat} {A B C : World} (h : KB n₀ Bs A B) (k : KB n₀ Bs B C) : KB n₀ Bs A C :=
 ⟨h.1.trans k.1, fun hb => (k.2 (Nat.lt_of_lt_of_le hb h.1.size)).trans (h.2 hb)⟩
theorem KB.refl (n₀ Bs : Nat) (W : World) : KB n₀ Bs W W := ⟨Below.refl _ _, fun _ => rfl⟩
theorem KB.put {n₀ Bs : Nat} {w : World} (hn : n₀ ≤ w.heap.size) (hB : Bs < w.heap.size) (W : World) (l : Nat) (o o' : Obj) (hl : w.heap.size ≤ l) (h : W.heap[l]? = some o) (h1 : o.isCells = false) (h2 : o.isWalk = false) : KB n₀ Bs W (W.putObj l o') :=
 ⟨belowK_b hn W l o o' hl h h1 h2, fun _ => World.putObj_heap_other (by omega)⟩
theorem KB.row {n₀ Bs b : Nat} {W W' : World} (hg : W.grownBy W' (some b)) (hb : n₀ ≤ b) (hn : n₀ ≤ W.heap.size) (hne : b ≠ Bs) : KB n₀ Bs W W' :=
 ⟨below_row hg hb hn, fun hlt => hg.block Bs hlt (fun e => hne (Option.some.inj e).symm)⟩
theorem KB.more {n₀ Bs : Nat} {W W' : World} (hb : Below W.heap.size W W') (hn : n₀ ≤ W.heap.size) : KB n₀ Bs W W' :=
 ⟨hb.mono hn, fun hlt => hb.block Bs hlt⟩
/-- Column k, as yield is handed it. -/
def colV (z : ZD) (ca : Nat → Option Addr) (cc : Nat → Nat) (k : Nat) : Array Value := #[.int .i64 (z.ids.getD k 0), .slice (ca k) (colZ z k).length (cc k)]
structure ColAt (w : World) (z : ZD) (ca : Nat → Option Addr) (cc : Nat → Nat) (k : Nat) : Prop where
 row : FR w (ca k) (colZ z k)
 cap : (colZ z k).length ≤ cc k
 max : cc k ≤ maxLen
theorem cols_choose {w : World} {C : Option Addr} {z : ZD} (h : GR w C z.g) :
  ∃ (ca : Nat → Option Addr) (cc : Nat → Nat), ∀ k, k < z.g.length → ColAt w z ca cc k ∧ ∃ b o : Nat, C = some ⟨b, o, none⟩ ∧ b < w.heap.size ∧ w.cell? ⟨b, o + k, none⟩ = some (.slice (ca k) (colZ z k).length (cc k)) := by
 have h1 : ∀ k, ∃ p : Option Addr × Nat, k < z.g.length → (FR w p.1 (colZ z k) ∧ (colZ z k).length ≤ p.2 ∧ p.2 ≤ maxLen) ∧ ∃ b o : Nat, C = some ⟨b, o, none⟩ ∧ b < w.heap.size ∧ w.cell? ⟨b, o + k, none⟩ = some (.slice p.1 (colZ z k).length p.2) := by
  intro k
  by_cases hk : k < z.g.length
  ·have hg : z.g[k]? = some (colZ z k) := by unfold colZ; rw [List.getD_eq_getElem?_getD, List.getElem?_eq_getElem hk, Option.getD_some]
   obtain ⟨b, o, e, hb, B, cap, hc, h3, h4, h5⟩ := h k _ hg
   exact ⟨(B, cap), fun _ => ⟨⟨h5, h3, h4⟩, b, o, e, hb, hc⟩⟩
  ·exact ⟨(none, 0), fun h => absurd h hk⟩
 refine ⟨fun k => (Classical.choose (h1 k)).1, fun k => (Classical.choose (h1 k)).2, fun k hk => ?_⟩
 obtain ⟨⟨h2, h3, h4⟩, h5⟩ := Classical.choose_spec (h1 k) hk
 exact ⟨⟨h2, h3, h4⟩, h5⟩
def upC (m k : Nat) : List (Fin m) := (List.finRange m).take k
theorem upC_length {m k : Nat} (h : k ≤ m) : (upC m k).length = k := by unfold upC; rw [List.length_take, List.length_finRange]; omega
theorem upC_succ {m k : Nat} (h : k < m) : upC m (k + 1) = upC m k ++ [⟨k, h⟩] := by
 unfold upC
 have hl : k < (List.finRange m).length := by rw [List.length_finRange]; exact h
 rw [List.take_add_one, List.getElem?_eq_getElem hl, List.getElem_finRange]
 rfl
theorem upC_all (m : Nat) : upC m m = List.finRange m := by
 unfold upC
 exact List.take_of_length_le (by rw [List.length_finRange]; exact Nat.le_refl _)
set_option maxHeartbeats 4000000 in
theorem columns1_in (F : Fence) (n : Nat) (hF : F.fn 116) (hro : F.round = none) (hn : 1 ≤ n) (l Bs m : Nat) (z : ZD) (ca : Nat → Option Addr) (cc : Nat → Nat) (A B C D : Option Addr) (kA kB kC kD : Nat) (w₀ : World)
  (hm : z.ids.length = m) (hg : z.g.length = m) (hmm : m ≤ 1073741825)
  (hi : IR w₀ B z.ids) (hc : ∀ k, k < m → ∃ b o : Nat, C = some ⟨b, o, none⟩ ∧ b < w₀.heap.size ∧ w₀.cell? ⟨b, o + k, none⟩ = some (.slice (ca k) (colZ z k).length (cc k)))
  (J Jx : List (Fin m) → World → Prop)
  (hY : ∀ pre (x : Fin m) W, J pre W → pre.length < m → YieldAt F (n - 1) Tryz.prog l (colV z ca cc x.1) W fun e W' =>
   (e = .returned (.bool true) ∧ J (pre ++ [x]) W' ∧ KB w₀.heap.size Bs W W') ∨ (e = .returned (.bool false) ∧ Jx (pre ++ [x]) W'))
  (W : World) (hB0 : Below w₀.heap.size w₀ W) (hx : W.heap[Bs]? = some (.cells #[.int .i64 z.n, .slice A z.c.length kA, .slice B z.ids.length kB, .slice C z.g.length kC, .slice D z.r.length kD, .bool z.bad] 26 (0, 0))) (h0 : J [] W) :
  CallsIn F n Tryz.prog 116 #[.func (.yield l) #[] #[], .pointer (some ⟨Bs, 0, none⟩)] W fun e W' => (∃ v, e = .returned v) ∧
   ((∃ ys, ys = upC m m ∧ J ys W') ∨ (∃ pre, (∃ k, k ≤ m ∧ pre = upC m k) ∧ Jx pre W')) := by
 refine callsIn_of_wp Tryz.func116 rfl hF ?_ hro
 simp only [Tryz.ntmps116, List.size_toArray, List.length_cons, List.length_nil, Nat.reduceAdd, Nat.reduceSub, Array.replicate_succ, Array.replicate_zero, List.push_toArray, List.append_toArray, List.nil_append, List.cons_append]
 have HM := Lib.hid hm
 have HG := Lib.hid hg
 obtain ⟨x0, x1, x2, x3, x4, x5⟩ := cells6 hx
 rw [hm] at x2
 rw [hg] at x3
 clear x0 x1 x4 x5 hm hg
 gi_wp2
 gi_loopw [8] (fun i wr => ∃ k : Nat, k ≤ m ∧ i = .int .i64 (k : Nat) ∧ J (upC m k) wr ∧ KB w₀.heap.size Bs W wr) (fun i _ => m - (intOf i).toNat)
 case atStart => exact ⟨0, Nat.zero_le _, rfl, h0, KB.refl _ _ _⟩
 case round =>
  obtain ⟨k, hk, rfl, hJs, hnx⟩ := hrel
  have hxr : wr.heap[Bs]? = _ := (hnx.2 (Array.getElem?_eq_some_iff.1 hx).1).trans hx
  obtain ⟨y0, y1, y2, y3, y4, y5⟩ := cells6 hxr
  rw [HG.out] at y3
  clear hxr hx x2 x3 y0 y1 y2 y4 y5
  have hbr := hB0.trans hnx.1
  by_cases hlt : k < m
  ·obtain ⟨i, hgi⟩ : ∃ i, z.ids[k]? = some i := ⟨z.ids[k]'(by rw [HM.out]; exact hlt), List.getElem?_eq_getElem _⟩
   obtain ⟨bi, oi, rfl, hbi, hci⟩ := hi.at hbr k i hgi
   obtain ⟨bc, oc, rfl, hbc, hcc⟩ := hc k hlt
   replace hcc := (hbr.cell (p := ⟨bc, oc + k, none⟩) hbc).trans hcc
   obtain ⟨fn, tmps, assign, body, hy, hR⟩ := hY _ ⟨k, hlt⟩ wr hJs (by rw [upC_length hk]; exact hlt)
   unfold colV at hy
   dsimp only at hy
   rw [List.getD_eq_getElem?_getD, hgi, Option.getD_some] at hy
   have hci' : wr.cell? ⟨bi, oi + k, none⟩ = some (.int .i64 i) := hci
   clear hci hY hc hi
   gi_wp2
   refine hR.mono ?_
   rintro e W3 (⟨rfl, hJ3, hk3⟩ | ⟨rfl, hJx3⟩)
   ·gi_wp2
    go_roundw
    case rel => exact ⟨k + 1, by omega, by go_num, by rw [upC_succ hlt]; exact hJ3, hnx.trans hk3⟩
    case measure => simp [intOf]; omega
   ·gi_wp2
    refine bodyPost_ret (results_none rfl _ _ _) rfl ?_
    exact ⟨⟨_, rfl⟩, .inr ⟨_, ⟨k + 1, by omega, (upC_succ hlt).symm⟩, hJx3⟩⟩
  ·obtain rfl : k = m := by omega
   gi_wp2
   go_end0
   exact ⟨⟨_, rfl⟩, .inl ⟨_, rfl, hJs⟩⟩
theorem columns_any (w : World) (v0 v1 v2 v3 v4 v5 : Value) : Calls Tryz.prog 73 #[.agg #[v0, v1, v2, v3, v4, v5]] w fun e w' =>
  e = .returned (.func (.func 116) #[] #[.pointer (some ⟨w.heap.size, 0, none⟩)]) ∧ w' = w.alloc (.cells #[v0, v1, v2, v3, v4, v5] 26) := by
 go_enter Tryz.func73, Tryz.ntmps73
 go_wp2_with fail
 go_ret
 exact ⟨rfl, rfl⟩
/-- The columns of z come one by one. -/
theorem columns_stops (F : Fence) (n : Nat) (hF : F.fn 116) (hro : F.round = none) (hn : 1 ≤ n) (Bs m : Nat) (z : ZD) (ca : Nat → Option Addr) (cc : Nat → Nat) (A B C D : Option Addr) (kA kB kC kD : Nat) (w₀ w : World)
  (hm : z.ids.length = m) (hg : z.g.length = m) (hmm : m ≤ 1073741825)
  (hi : IR w₀ B z.ids) (hc : ∀ k, k < m → ∃ b o : Nat, C = some ⟨b, o, none⟩ ∧ b < w₀.heap.size ∧ w₀.cell? ⟨b, o + k, none⟩ = some (.slice (ca k) (colZ z k).length (cc k)))
  (hB0 : Below w₀.heap.size w₀ w) (hx : w.heap[Bs]? = some (.cells #[.int .i64 z.n, .slice A z.c.length kA, .slice B z.ids.length kB, .slice C z.g.length kC, .slice D z.r.length kD, .bool z.bad] 26 (0, 0))) :
  SeqStopsK F n Tryz.prog 116 #[.pointer (some ⟨Bs, 0, none⟩)] (fun x : Fin m => colV z ca cc x.1) (KB w₀.heap.size Bs) (fun ys => ys = List.finRange m) (fun pre => ∃ k, k ≤ m ∧ pre = upC m k) m w := fun l J Jx W hW _ _ hY h0 => by
 have hlt := (Array.getElem?_eq_some_iff.1 hx).1
 have := columns1_in F n hF hro hn l Bs m z ca cc A B C D kA kB kC kD w₀ hm hg hmm hi hc J Jx hY W (hB0.trans (hW.mono hB0.size)) ((hW.block Bs hlt).trans hx) h0
 rw [upC_all] at this
 exact this
end Go.Proofs.YtpfbgenefjhcjaaGreatDoor
namespace Go.Proofs.YtpfbgenefjhcjaaGreatDoor
set_option linter.unusedVariables false
set_option linter.unusedSimpArgs false
open Go Go.RowKit
section
variable {P : Program} {ops : Array Oper} {md : Region.Mode} {K : Act → World → Prop} {Q : Exit → Act → World → Prop}
theorem oper_round (l n : Nat) {o : Oper} {a : Act} {w : World} (hd : ∀ c, o.op ≠ .defer c) (h : o.wp P a w K Q) : o.wpIn (Fence.wide.inRound l) n P a w K Q := by
 unfold Oper.wpIn
 refine ⟨fun _ _ => trivial, ?_⟩
 rw [show (Fence.wide.inRound l).round = some l from rfl, Oper.semAt_some l _ _ hd]
 unfold Oper.wp at h
 generalize (execOp a.eval o).run P w = r at h
 cases r with
 | ok x w' =>
  cases x <;> simp only [Oper.upon] at h <;> simp only [Oper.uponIn]
  case value => exact h
  case skip => exact h
  case defer => exact h
  case enter f args => exact ⟨fun e => (by cases e), CallsIn.inRound l (callsIn_wide.2 h)⟩
  case row row args => exact ⟨fun e => (by cases e), fun c cs _ => by obtain ⟨v, w', h1, h2⟩ := h c cs; exact ⟨v, w', h1, stepsIn_wide.2 h2⟩⟩
 | halt x w' => cases x <;> simp only [Oper.upon] at h <;> simp only [Oper.uponIn] <;> exact h
def noDefer (ops : Array Oper) : Bool := ops.all fun o => match o.op with | .defer _ => false | _ => true
theorem noDefer_spec (h : noDefer ops = true) {i : Nat} {o : Oper} (ho : ops[i]? = some o) : ∀ c, o.op ≠ .defer c := fun c hc => by
 obtain ⟨hi, e⟩ := Array.getElem?_eq_some_iff.1 ho
 have h1 := Array.all_eq_true.1 h i hi
 rw [e, hc] at h1
 cases h1
theorem wpOp_round (l n : Nat) (hnd : noDefer ops = true) (hQ : ¬ LetsOut Q) {i : Nat} {a : Act} {w : World} (h : wpOp P ops Q i K a w) : wpOpIn (Fence.wide.inRound l) n P ops Q i K a w := by
 unfold wpOp at h
 unfold wpOpIn
 split
 ·rename_i ho; simp only [ho] at h; exact h
 ·rename_i o ho
  simp only [ho] at h
  split
  ·rename_i hw
   simp only [hw, if_true] at h
   rcases h with h | h
   ·exact oper_round l n (noDefer_spec hnd ho) h
   ·exact absurd h.2 hQ
  ·rename_i hw
   simp only [hw] at h
   exact ⟨fun _ _ => trivial, h⟩
theorem wpAny_round (l n : Nat) (hnd : noDefer ops = true) (hQ : ¬ LetsOut Q) : ∀ (f : Nat) (listed : Array Bool) (a : Act) (w : World), wpAny P md ops Q f listed a w → wpAnyIn (Fence.wide.inRound l) n P md ops Q f listed a w
 | 0, _, _, _, h => h
 | f + 1, listed, a, w, h => ⟨h.1, fun i hi => wpOpIn_mono (fun a' w' => wpAny_round l n hnd hQ f _ a' w') (wpOp_round l n hnd hQ (h.2 i hi))⟩
end
theorem wpIn_round_still_tail {P : Program} {id r m : Nat} {Q : Exit → Act → World → Prop} {a : Act} {w : World} {l : List Oper} (n : Nat) (hm : P.follows .mixedOrders = true) (hB : Region.lexTailB .any l.toArray n = true) (hnd : noDefer l.toArray = true) (hQ : ¬ LetsOut Q)
  (h : wpStill P l.toArray { w with drawn := w.drawn + 1 } (fun a' => wpList P l.toArray Q (l.drop n) a' { w with drawn := w.drawn + 1 }) (l.take n) a) : (Code.region id l.toArray true).wpIn (Fence.wide.inRound r) m P Q a w := by
 simp only [Region.lexTailB, Bool.and_eq_true, decide_eq_true_eq] at hB
 obtain ⟨⟨⟨⟨hsel, hn⟩, hs⟩, hc⟩, hlex⟩ := hB
 have hn' : n < l.length := by simpa using hn
 have htl : (l.take n).length = n := by simp; omega
 have hdl : (l.drop n).length = l.toArray.size - n := by simp
 have inv0 : HeadInv .any l.toArray n (Array.replicate l.toArray.size false) :=
  ⟨by simp, fun j oj _ hl => (by rw [getD_replicate_false] at hl; cases hl), fun t _ ht => getD_in (by simpa using ht) (getD_replicate_false _ _)⟩
 have H := wpAnyL_lex (md := .any) (g := l.toArray.size - n) hsel hs hc hn (l.take n) 0 _ a (fun j hj => by
  have hj' : j < n := by rw [htl] at hj; exact hj
  simp [hj']) (by simpa using htl) inv0 (by rw [htl]; exact hlex) h
 refine wpIn_region_any hm (wpAny_round r m hnd hQ _ _ _ _ ?_)
 have := wpAny_of_head (Q' := Q) (g := l.toArray.size - n) (fun listed a' hL => by
  have := wpAny_of_seq (md := .any) (Q' := Q) (l.drop n) n listed a' { w with drawn := w.drawn + 1 } (fun j => by simp [List.getElem?_drop]) (by rw [hdl]; exact hL.1) hL.2
  rwa [hdl] at this) _ _ _ H
 rw [htl, show n + (l.toArray.size - n) = l.toArray.size by omega] at this
 exact this
/-- A region that draws and ends in late stores, in a round. -/
theorem wpIn_round_late {P : Program} {ops : Array Oper} {Q : Exit → Act → World → Prop} (S : World → Prop) (lates : List Nat) {id r m : Nat} {a : Act} {w : World} (hm : P.follows .mixedOrders = true) (hnd : noDefer ops = true) (hQ : ¬ LetsOut Q)
  (h : wpLate P .any ops Q S lates ops.size (Array.replicate ops.size false) a w.drew) : (Code.region id ops true).wpIn (Fence.wide.inRound r) m P Q a w :=
 wpIn_region_any hm (wpAny_round r m hnd hQ _ _ _ _ (wpAny_of_late _ _ _ _ h))
end Go.Proofs.YtpfbgenefjhcjaaGreatDoor
namespace Go.Proofs.YtpfbgenefjhcjaaGreatDoor
set_option linter.unusedVariables false
set_option linter.unusedSimpArgs false
open Go Go.RowKit
set_option maxRecDepth 100000
theorem setCells_heap (b : Nat) (t : TypeId) : ∀ (vs : List Value) (o : Nat) (w : World) (cs : Array Value), w.heap[b]? = some (.cells cs t (0, 0)) →
  ∃ cs' : Array Value, (w.setCells b o vs).heap[b]? = some (.cells cs' t (0, 0)) ∧ cs'.size = cs.size ∧ (∀ j, j < o ∨ o + vs.length ≤ j → cs'[j]? = cs[j]?) ∧ (∀ j v, vs[j]? = some v → o + j < cs.size → cs'[o + j]? = some v) ∧ w.grownBy (w.setCells b o vs) (some b)
 | [], o, w, cs, h => ⟨cs, h, rfl, fun _ _ => rfl, fun j v hv => by simp at hv, grown_refl w _⟩
 | v :: r, o, w, cs, h => by
  have h1 : (w.setCell ⟨b, o, none⟩ v).heap[b]? = some (.cells (cs.setIfInBounds o v) t (0, 0)) := heap_setCell_same w b o _ _ _ h
  obtain ⟨cs', g1, g2, g3, g4, g5⟩ := setCells_heap b t r (o + 1) (w.setCell ⟨b, o, none⟩ v) _ h1
  refine ⟨cs', g1, by simpa using g2, fun j hj => ?_, fun j u hu hlt => ?_, ?_⟩
  ·rw [List.length_cons] at hj
   rw [g3 j (by omega), Array.getElem?_setIfInBounds, if_neg (by omega)]
  ·cases j with
   | zero =>
    cases hu
    rw [g3 (o + 0) (by omega), Array.getElem?_setIfInBounds, if_pos (by omega), if_pos (by omega)]
   | succ j =>
    have := g4 j u (by simpa using hu) (by simp; omega)
    rw [show o + (j + 1) = o + 1 + j by omega]
    exact this
  ·have h2 := grown_set (grown_refl w (some b)) o v
   exact grown_trans h2 g5
theorem acc_written {w : World} {b X Y : Nat} {bad : Bool} (h : AccAt w b X bad) : AccAt (w.setCells b 0 (wordCells 76 Y)) b Y bad ∧ w.grownBy (w.setCells b 0 (wordCells 76 Y)) (some b) := by
 obtain ⟨cs, g1, g2, g3, g4, g5⟩ := setCells_heap b _ (wordCells 76 Y) 0 w _ h
 refine ⟨?_, g5⟩
 have e : cs = accCells Y bad := by
  refine Array.ext_getElem? fun j => ?_
  rw [accCells_size] at g2 g4
  by_cases hj : j < 76
  ·have := g4 j _ (wordCells_get 76 Y j hj) (by omega)
   rw [Nat.zero_add] at this
   rw [this, accCells_get Y bad j hj]
  ·rw [g3 j (Or.inr (by rw [wordCells_length]; omega))]
   by_cases h76 : j = 76
   ·subst h76
    rw [accCells_bad, accCells_bad]
   ·rw [Array.getElem?_eq_none (by rw [accCells_size]; omega), Array.getElem?_eq_none (by rw [accCells_size]; omega)]
 unfold AccAt
 rw [g1, e]
theorem there76 {w : World} {b X : Nat} {bad : Bool} (h : AccAt w b X bad) : w.there b 0 76 := fun j hj => by
 rw [Nat.zero_add]
 exact ⟨by rw [h.cell j hj]; rfl, frozen_of_row w b j _ _ h⟩
set_option maxHeartbeats 2000000 in
theorem Abs_words (w : World) (b X : Nat) (bad : Bool) (h : AccAt w b X bad) (hX : X < TOP) :
  Calls Tryz.prog 74 #[.pointer (some ⟨b, 0, none⟩)] w fun e w' => e = .returned (.tuple #[]) ∧ AccAt w' b (absX X) bad ∧ w.grownBy w' (some b) := by
 have hs := size_any w b X bad h hX h.lt
 go_enter Tryz.func74, Tryz.ntmps74
 go_wp2_with fail
 refine hs.mono ?_
 rintro e w1 ⟨rfl, hb⟩
 have h1 := h.below h.lt hb
 obtain ⟨g1, g2⟩ := acc_written (Y := absX X) h1
 have hg := grown_trans (grown_of_below (row := some b) hb) g2
 have ht := there76 h1
 clear hs h
 go_wp2_with (refine wpList_store_mid rfl 161 (.tmp 6) (.tmp 4) rfl b 0 (arrCells (absX X)) rfl rfl (by rw [arrCells_size]; exact ht) (info_arr _) (all_oneCell_toArray (fun v hv => by simp [wordCells] at hv; obtain ⟨i, _, rfl⟩ := hv; rfl)) ?_)
 go_end0
 exact ⟨rfl, g1, hg⟩
theorem Abs_acc (w : World) (b : Nat) (s : Option Int) (h : AccIs w b s) :
  Calls Tryz.prog 74 #[.pointer (some ⟨b, 0, none⟩)] w fun e w' => e = .returned (.tuple #[]) ∧ AccIs w' b (s.map zabs) ∧ w.grownBy w' (some b) := by
 cases s with
 | none =>
  have := Abs_words w b 0 true h TOP_pos
  refine this.mono fun e w' ⟨h1, h2, h3⟩ => ⟨h1, ?_, h3⟩
  have e0 : absX 0 = 0 := by unfold absX isNeg; rw [decide_eq_false (by have := TOP_pos; omega)]; rfl
  rw [e0] at h2
  exact h2
 | some z =>
  have ht := TOP_LIM
  have hz := h.2
  have := Abs_words w b (enc z) false h.1 (enc_lt z)
  refine this.mono fun e w' ⟨h1, h2, h3⟩ => ⟨h1, ?_, h3⟩
  rw [absX_enc z (by omega)] at h2
  show AccAt w' b (enc (zabs z)) false ∧ (zabs z).natAbs < LIM
  rw [zabs_natAbs, enc_pos (zabs z) (by unfold zabs; omega) (by rw [zabs_natAbs]; omega), zabs_natAbs]
  exact ⟨h2, hz⟩
theorem dotZ_step (d l : List Nat) (k u v : Nat) (hu : d[k]? = some u) (hv : l[k]? = some v) : dotZ d l (k + 1) = dotZ d l k + prodZ u v 0 := by
 show sumTo _ k + prodZ (d.getD k 0) (l.getD k 0) 0 = _
 rw [List.getD_eq_getElem?_getD, List.getD_eq_getElem?_getD, hu, hv, Option.getD_some, Option.getD_some]
 rfl
set_option maxHeartbeats 4000000 in
theorem along_any (w : World) (A B : Option Addr) (n m ca cb : Nat) (d l : List Nat) (h : FR w A d) (h' : FR w B l) (hd : d.length = n) (hl : l.length = m) (hm : n ≤ m) (hn : n ≤ 1000000) (sd : Small d) (sl : Small l) (nd : ∀ u ∈ d, fexp u ≠ 2047) (nl : ∀ u ∈ l, fexp u ≠ 2047) (hmm : m ≤ maxLen) :
  Calls Tryz.prog 72 #[.slice A n ca, .slice B m cb] w fun e w' => ∃ p, e = .returned (.pointer (some ⟨p, 0, none⟩)) ∧ w.heap.size ≤ p ∧ AccIs w' p (some (dotZ d l n)) ∧ Below w.heap.size w w' := by
 have HD := Lib.hid hd
 have HL := Lib.hid hl
 have hbd := fun k (hk : k ≤ n) => dotZ_bound d l k nd nl
 unfold maxLen at hmm
 clear hd hl
 go_enter Tryz.func72, Tryz.ntmps72
 go_wp2_with fail
 refine (new_any w).mono ?_
 rintro e w1 ⟨rfl, rfl⟩
 have ha0 : AccIs (w.alloc (.cells (accCells 0 false) 163)) w.heap.size (some (dotZ d l 0)) := ⟨heap_alloc_new w _, LIM_pos⟩
 have hb0 : Below w.heap.size w (w.alloc (.cells (accCells 0 false) 163)) := (Below.refl _ _).alloc (Nat.le_refl _) _
 generalize w.alloc (.cells (accCells 0 false) 163) = w1 at *
 go_wp2_with fail
 go_loopw [10] (fun kk wr => ∃ k : Nat, k ≤ n ∧ kk = .int .i64 (k : Nat) ∧ AccIs wr w.heap.size (some (dotZ d l k)) ∧ Below w.heap.size w wr) (fun kk _ => n - (intOf kk).toNat)
 case atStart => exact ⟨0, by omega, rfl, ha0, hb0⟩
 case round =>
  obtain ⟨k, hk, rfl, ha, hb⟩ := hrel
  clear ha0 hb0
  by_cases hlt : k < n
  ·have hlt' : (k : Int) < n := by omega
   have hltm : (k : Int) < m := by omega
   obtain ⟨u, hu⟩ := get_some d k (by have := HD.out; omega)
   obtain ⟨v, hv⟩ := get_some l k (by have := HL.out; omega)
   obtain ⟨b, o, rfl, hbb, hc⟩ := h.cell hb k u hu
   obtain ⟨b', o', rfl, hbb', hc'⟩ := h'.cell hb k v hv
   have hstep := dotZ_step d l k u v hu hv
   have hb1 := hbd (k + 1) (by omega)
   have hs := prodS_good (dotZ d l k) u v (nd u (List.mem_of_getElem? hu)) (nl v (List.mem_of_getElem? hv)) (by rw [← hstep]; exact few_lt _ (k + 1) (by omega) hb1)
   rw [← hstep] at hs
   have hpr := prod_any wr.drew w.heap.size u v 0 _ (ha.heap (w1 := wr.drew) rfl) (sd.at k u hu) (sl.at k v hv)
   rw [hs] at hpr
   clear hs hstep hb1 hu hv hbd
   go_wp2_with fail
   go_still_tail 9, (by kernel_rfl)
   change wpList _ _ _ _ _ wr.drew
   go_wp2_with fail
   refine hpr.mono ?_
   rintro e w2 ⟨rfl, ha2, hg2⟩
   have hb2 := hb.drew.trans (below_row hg2 (Nat.le_refl _) hb.size)
   go_wp2_with fail
   go_roundw
   case rel => exact ⟨k + 1, by omega, by go_num, ha2, hb2⟩
   case measure => simp [intOf]; omega
  ·obtain rfl : k = n := by omega
   have hlt' : decide ((k : Int) < (k : Nat)) = false := by simp
   clear hbd
   go_wp2_with fail
   go_ret
   exact ⟨_, rfl, Nat.le_refl _, ha, hb⟩
end Go.Proofs.YtpfbgenefjhcjaaGreatDoor
namespace Go.Proofs.YtpfbgenefjhcjaaGreatDoor
set_option linter.unusedVariables false
set_option linter.unusedSimpArgs false
open Go Go.RowKit Go.Shelf
attribute [local go_sem] Oper.semAt_some
set_option maxRecDepth 100000
def sumP {m : Nat} (f : Nat → Int) (pre : List (Fin m)) : Int := sumTo (fun i => match pre[i]? with | some k => f k.1 | none => 0) pre.length
theorem sumP_nil {m : Nat} (f : Nat → Int) : sumP f ([] : List (Fin m)) = 0 := rfl
theorem sumP_snoc {m : Nat} (f : Nat → Int) (pre : List (Fin m)) (x : Fin m) : sumP f (pre ++ [x]) = sumP f pre + f x.1 := by
 unfold sumP
 rw [List.length_append, List.length_singleton]
 show sumTo _ pre.length + _ = _
 congr 1
 ·exact sumTo_congr _ _ _ fun i hi => by rw [List.getElem?_append_left hi]
 ·show (match (pre ++ [x])[pre.length]? with | some k => f k.1 | none => 0) = _
  rw [List.getElem?_append_right (Nat.le_refl _), Nat.sub_self]
  rfl
theorem sumP_bound {m : Nat} (f : Nat → Int) (B : Nat) (hf : ∀ k, (f k).natAbs ≤ B) (pre : List (Fin m)) : (sumP f pre).natAbs ≤ pre.length * B := by
 refine sumTo_bound _ _ _ fun i hi => ?_
 rw [List.getElem?_eq_getElem hi]
 exact hf _
theorem sumP_all (m : Nat) (f : Nat → Int) : sumP f (List.finRange m) = sumTo f m := by
 unfold sumP
 rw [List.length_finRange]
 refine sumTo_congr _ _ _ fun i hi => ?_
 rw [List.getElem?_eq_getElem (by rw [List.length_finRange]; exact hi), List.getElem_finRange]
 rfl
theorem heap_own {W W' : World} {row : Option Nat} {b : Nat} {cs : Array Value} {t : TypeId} {k : Nat × Nat} (h : W.heap[b]? = some (.cells cs t k)) (hg : W.grownBy W' row) (hr : ∀ r, row = some r → ∃ o : Obj, W.heap[r]? = some o ∧ o.isCells = false) : W'.heap[b]? = some (.cells cs t k) :=
 (hg.block b (Array.getElem?_eq_some_iff.1 h).1 (fun e => by obtain ⟨o, ho, hc⟩ := hr b e.symm; rw [h] at ho; cases ho; cases hc)).trans h
theorem acc_own {W W' : World} {row : Option Nat} {b : Nat} {s : Option Int} (h : AccIs W b s) (hg : W.grownBy W' row) (hr : ∀ r, row = some r → ∃ o : Obj, W.heap[r]? = some o ∧ o.isCells = false) : AccIs W' b s := by
 cases s with
 | none => exact heap_own h hg hr
 | some z => exact ⟨heap_own h.1 hg hr, h.2⟩
theorem four_blocks (w : World) (o0 o1 o2 o3 : Obj) : ((((w.alloc o0).alloc o1).alloc o2).alloc o3).heap[w.heap.size]? = some o0 ∧ ((((w.alloc o0).alloc o1).alloc o2).alloc o3).heap[w.heap.size + 1]? = some o1 ∧
  ((((w.alloc o0).alloc o1).alloc o2).alloc o3).heap[w.heap.size + 1 + 1]? = some o2 ∧ ((((w.alloc o0).alloc o1).alloc o2).alloc o3).heap[w.heap.size + 1 + 1 + 1]? = some o3 ∧
  ((((w.alloc o0).alloc o1).alloc o2).alloc o3).heap.size = w.heap.size + 1 + 1 + 1 + 1 ∧ Below w.heap.size w ((((w.alloc o0).alloc o1).alloc o2).alloc o3) := by
 have h0 := World.alloc_heap_new w o0
 have h1 := World.alloc_heap_new (w.alloc o0) o1
 have h2 := World.alloc_heap_new ((w.alloc o0).alloc o1) o2
 have h3 := World.alloc_heap_new (((w.alloc o0).alloc o1).alloc o2) o3
 simp only [World.size_alloc] at h1 h2 h3
 refine ⟨?_, ?_, ?_, h3, by simp, ?_⟩
 ·exact (Below.heap_alloc _ _ _ (by simp; omega)).trans ((Below.heap_alloc _ _ _ (by simp; omega)).trans ((Below.heap_alloc _ _ _ (by simp)).trans h0))
 ·exact (Below.heap_alloc _ _ _ (by simp)).trans ((Below.heap_alloc _ _ _ (by simp)).trans h1)
 ·exact (Below.heap_alloc _ _ _ (by simp)).trans h2
 ·exact ((((Below.refl _ w).alloc (Nat.le_refl _) _).alloc (by simp) _).alloc (by simp; omega) _).alloc (by simp; omega) _
theorem acc_zero {w : World} {b : Nat} (h : w.heap[b]? = some (.cells (accCells 0 false) 163)) : AccIs w b (some 0) := ⟨h, LIM_pos⟩
/-- One box, read. -/
theorem cell_one {w : World} {g : Nat} {v : Value} {t : TypeId} (h : w.heap[g]? = some (.cells #[v] t (0, 0))) : w.cell? ⟨g, 0, none⟩ = some v := by rw [cell_of_row _ _ _ _ _ _ h]; rfl
theorem gnum (us : List Nat) (k : Nat) (u : Nat) (h : us[k]? = some u) : us.getD k 0 = u := by rw [List.getD_eq_getElem?_getD, h, Option.getD_some]
set_option maxHeartbeats 4000000 in
theorem reach_any (w : World) (A B C D : Option Addr) (kA kB kC kD : Nat) (z : ZD) (i : Nat) (h : ZCells w z A B C D kA kB kC kD) (hk : ZOk z) (hz : Good z) (hi : (i : Int) < z.n) :
  Calls Tryz.prog 65 #[zval z A B C D kA kB kC kD, .int .i64 (i : Nat)] w fun e w' => ∃ p, e = .returned (.pointer (some ⟨p, 0, none⟩)) ∧ w.heap.size ≤ p ∧ AccIs w' p (some (reachZ z i)) ∧ Below w.heap.size w w' := by
 refine (callsIn_wide (n := 5)).1 ?_
 unfold zval
 refine callsIn_of_wp_marks Tryz.func65 rfl trivial ?_ rfl
 simp only [Tryz.ntmps65, List.size_toArray, List.length_cons, List.length_nil, Nat.reduceAdd, Nat.reduceSub, Array.replicate_succ, Array.replicate_zero, List.push_toArray, List.append_toArray, List.nil_append, List.cons_append]
 gi_wp2_with (refine ⟨trivial, ?_⟩; gi_at_call 66; refine CallsIn.mono (callsIn_wide.2 (new_any _)) ?_; rintro e w' ⟨rfl, rfl⟩)
 obtain ⟨f0, f1, f2, f3, f4, f5⟩ := four_blocks w (.cells #[.int .i64 z.n, .slice A z.c.length kA, .slice B z.ids.length kB, .slice C z.g.length kC, .slice D z.r.length kD, .bool z.bad] 26) (.cells #[.int .i64 (i : Nat)] 3) (.cells (accCells 0 false) 163) (.cells #[.pointer (some ⟨w.heap.size + 1 + 1, 0, none⟩)] 112)
 generalize ((((w.alloc (.cells #[.int .i64 z.n, .slice A z.c.length kA, .slice B z.ids.length kB, .slice C z.g.length kC, .slice D z.r.length kD, .bool z.bad] 26)).alloc (.cells #[.int .i64 (i : Nat)] 3)).alloc (.cells (accCells 0 false) 163)).alloc (.cells #[.pointer (some ⟨w.heap.size + 1 + 1, 0, none⟩)] 112)) = W1 at *
 obtain ⟨b1, e1⟩ : ∃ b, w.heap.size + 1 = b := ⟨_, rfl⟩
 rw [e1] at f1 f2 f3 f4 ⊢
 obtain ⟨b2, e2⟩ : ∃ b, b1 + 1 = b := ⟨_, rfl⟩
 rw [e2] at f2 f3 f4 ⊢
 obtain ⟨b3, e3⟩ : ∃ b, b2 + 1 = b := ⟨_, rfl⟩
 rw [e3] at f3 f4 ⊢
 have ha := acc_zero f2
 clear f2
 obtain ⟨u, hu⟩ : ∃ u, z.r[i]? = some u := ⟨z.r[i]'(by have := hz.lenR; omega), List.getElem?_eq_getElem _⟩
 obtain ⟨br, or_, rfl, hbr, hcr⟩ := h.r.at f5 i u hu
 have hir : (i : Int) < z.r.length := by have := hz.lenR; omega
 have hcr' : W1.cell? ⟨br, or_ + i, none⟩ = some (.float .f64 u) := hcr
 obtain ⟨x0, x1, x2, x3, x4, x5⟩ := cells6 f0
 have y1 := cell_one f1
 have y3 := cell_one f3
 clear hcr x0 x1 x2 x3 x5
 have hnu := hz.numR u (List.mem_of_getElem? hu)
 have hu64 := hk.r.at i u hu
 have hgu := gnum _ _ _ hu
 have hpr := add_any W1.drew b2 u _ (ha.heap (w1 := W1.drew) rfl) hu64
 rw [addS_some 0 u hnu (by rw [Int.zero_add]; exact few_ltF _ 1 (by decide) (by have := fz_lt u hnu; omega)), Int.zero_add] at hpr
 refine wpIn_wide.2 ?_
 go_still_tail 6, (by kernel_rfl)
 change wpList _ _ _ _ _ W1.drew
 go_wp2_with fail
 refine hpr.mono ?_
 rintro e w2 ⟨rfl, ha2, hg2⟩
 have hs1 : W1.drew.heap.size = b3 + 1 := f4
 have g0 : w2.heap[w.heap.size]? = _ := (hg2.block w.heap.size (by omega) (fun e => by cases e; omega)).trans f0
 have g1 : w2.heap[b1]? = _ := (hg2.block b1 (by omega) (fun e => by cases e; omega)).trans f1
 have g3 : w2.heap[b3]? = _ := (hg2.block b3 (by omega) (fun e => by cases e; omega)).trans f3
 have hb2 : Below w.heap.size w w2 := f5.drew.trans (below_row hg2 (by omega) (by omega))
 have hs2 : b3 + 1 ≤ w2.heap.size := by have := hg2.size; omega
 clear ha f0 f1 f3 f4 f5 hpr hcr' x4 y1 y3 hs1 hir hg2 hu64
 obtain ⟨x0, x1, x2, x3, x4, x5⟩ := cells6 g0
 go_wp2_with fail
 gi_wp2_with (refine ⟨trivial, ?_⟩; gi_at_call 73; refine CallsIn.mono (callsIn_wide.2 (columns_any _ _ _ _ _ _ _)) ?_; rintro e w' ⟨rfl, rfl⟩)
 clear x0 x1 x2 x3 x4 x5
 obtain ⟨ca, cc, hcol⟩ := cols_choose h.g
 have hx3 := World.alloc_heap_new w2 (.cells #[.int .i64 z.n, .slice A z.c.length kA, .slice B z.ids.length kB, .slice C z.g.length kC, .slice (some ⟨br, or_, none⟩) z.r.length kD, .bool z.bad] 26)
 have hb3 : Below w.heap.size w (w2.alloc (.cells #[.int .i64 z.n, .slice A z.c.length kA, .slice B z.ids.length kB, .slice C z.g.length kC, .slice (some ⟨br, or_, none⟩) z.r.length kD, .bool z.bad] 26)) := hb2.alloc (by omega) _
 have k1 : (w2.alloc (.cells #[.int .i64 z.n, .slice A z.c.length kA, .slice B z.ids.length kB, .slice C z.g.length kC, .slice (some ⟨br, or_, none⟩) z.r.length kD, .bool z.bad] 26)).heap[b1]? = _ := (Below.heap_alloc _ _ _ (by omega)).trans g1
 have k3 : (w2.alloc (.cells #[.int .i64 z.n, .slice A z.c.length kA, .slice B z.ids.length kB, .slice C z.g.length kC, .slice (some ⟨br, or_, none⟩) z.r.length kD, .bool z.bad] 26)).heap[b3]? = _ := (Below.heap_alloc _ _ _ (by omega)).trans g3
 have ka : AccIs (w2.alloc (.cells #[.int .i64 z.n, .slice A z.c.length kA, .slice B z.ids.length kB, .slice C z.g.length kC, .slice (some ⟨br, or_, none⟩) z.r.length kD, .bool z.bad] 26)) b2 (some (fz u + sumP (m := z.g.length) (fun k => zabs (fz ((colZ z k).getD i 0))) [])) := by
  rw [sumP_nil, Int.add_zero]
  exact ⟨(Below.heap_alloc _ _ _ (by omega)).trans ha2.1, ha2.2⟩
 have hs3 := World.size_alloc w2 (.cells #[.int .i64 z.n, .slice A z.c.length kA, .slice B z.ids.length kB, .slice C z.g.length kC, .slice (some ⟨br, or_, none⟩) z.r.length kD, .bool z.bad] 26)
 generalize w2.alloc (.cells #[.int .i64 z.n, .slice A z.c.length kA, .slice B z.ids.length kB, .slice C z.g.length kC, .slice (some ⟨br, or_, none⟩) z.r.length kD, .bool z.bad] 26) = W3 at *
 refine wpIn_rangeFunc_ownF rfl (by decide) (gf := 116) (lb := #[.pointer (some ⟨w2.heap.size, 0, none⟩)]) rfl trivial (enters_of Tryz.func116 (by kernel_rfl) rfl)
  (columns_stops Fence.wide (5 - 1) trivial rfl (by decide) w2.heap.size z.g.length z ca cc A B C (some ⟨br, or_, none⟩) kA kB kC kD w W3 hz.len rfl hz.cols h.ids (fun k hk => (hcol k hk).2) hb3 hx3)
  KB.trans (KB.put (by omega) (by omega)) (Below.refl _ _) (fun _ => rfl)
  (fun pre W => (AccIs W b2 (some (fz u + sumP (fun k => zabs (fz ((colZ z k).getD i 0))) pre)) ∧ W.heap[b1]? = some (.cells #[.int .i64 (i : Nat)] 3 (0, 0)) ∧ W.heap[b3]? = some (.cells #[.pointer (some ⟨b2, 0, none⟩)] 112 (0, 0))) ∧ Below w.heap.size w W)
  (fun _ _ _ => False)
  (OwnFrom.and (Own.from (fun s A B row hs hg hr => ⟨acc_own hs.1 hg hr, heap_own hs.2.1 hg hr, heap_own hs.2.2 hg hr⟩) _) (ownFrom_below (Nat.le_refl _) (by omega)))
  (fun _ _ _ _ _ hs _ _ => hs)
  ⟨⟨ka, k1, k3⟩, hb3⟩ ?a1 ?assign ?body ?done ?stop
 case assign =>
  intro l x W K hK
  unfold colV
  gi_wp2
  exact hK
 case body =>
  rintro l pre x W ⟨⟨ha, hp1, hp3⟩, hB⟩ hlt
  have y1 := cell_one hp1
  have y3 := cell_one hp3
  have hxk := hcol x.1 x.2
  have hnum := hz.colNum x.1
  have hgx : z.g[x.1]? = some (colZ z x.1) := by unfold colZ; rw [List.getD_eq_getElem?_getD, List.getElem?_eq_getElem x.2, Option.getD_some]
  have hlen := (hz.colG x.1 _ hgx).2
  have hsm := (hk.g _ (List.mem_of_getElem? hgx)).1
  obtain ⟨v, hv⟩ : ∃ v, (colZ z x.1)[i]? = some v := ⟨(colZ z x.1)[i]'(by omega), List.getElem?_eq_getElem _⟩
  obtain ⟨bv, ov, hcv, hbv, hcell⟩ := hxk.1.row.at hB i v hv
  have hcell' : W.cell? ⟨bv, ov + i, none⟩ = some (.float .f64 v) := hcell
  have hil : (i : Int) < (colZ z x.1).length := by omega
  have hnv := hnum v (List.mem_of_getElem? hv)
  have hv64 := hsm.at i v hv
  have hgv : (colZ z x.1).getD i 0 = v := gnum _ _ _ hv
  have hbound := reach_bound hz i 0 (Nat.zero_le _)
  have hsum := sumP_bound (fun k => zabs (fz ((colZ z k).getD i 0))) FB (fun k => by rw [zabs_natAbs]; exact Nat.le_of_lt (fz_lt _ (getD_num _ (hz.colNum k) i))) (pre ++ [x])
  have hfu := fz_lt u hnu
  have hpr := add_any W.drew b2 (absF v) _ (ha.heap (w1 := W.drew) rfl) (absF_lt v)
  have hnew : fz u + sumP (fun k => zabs (fz ((colZ z k).getD i 0))) pre + fz (absF v) = fz u + sumP (fun k => zabs (fz ((colZ z k).getD i 0))) (pre ++ [x]) := by
   rw [sumP_snoc, absF_fz v hv64, hgv, Int.add_assoc]
  rw [addS_some _ (absF v) (by rw [absF_fexp v hv64]; exact hnv) (by
   rw [hnew]
   rw [List.length_append, List.length_singleton] at hsum
   have hc := hz.cols
   refine few_ltF _ (pre.length + 2) (by omega) ?_
   have e : (pre.length + 2) * FB = (pre.length + 1) * FB + FB := by rw [show pre.length + 2 = (pre.length + 1) + 1 by omega, Nat.add_mul (pre.length + 1), Nat.one_mul]
   rw [e]
   generalize (pre.length + 1) * FB = T at *
   omega), hnew] at hpr
  have habs := Abs_any v hv64 W.drew
  rw [hcv]
  have hac : W.heap[b2]? = _ := ha.1
  clear hbound hsum hfu hnew hsm hlen hgx hnum hgv hxk hcell ha
  gi_wp2
  refine wpIn_round_still_tail 6 (by kernel_rfl) (by kernel_rfl) (by kernel_rfl) ?_ ?_
  ·rintro ⟨_, _, h⟩; exact h.elim
  simp only [List.take_succ_cons, List.take_zero, List.drop_succ_cons, List.drop_zero]
  repeat still_step
  try refine wpStill_nil ?_
  still_call habs
  refine wpStill_nil ?_
  change wpList _ _ _ _ _ W.drew
  go_wp2_with fail
  refine hpr.mono ?_
  rintro e W2 ⟨rfl, ha2, hg2⟩
  go_wp2_with fail
  have hb9 : Below w.heap.size W W2 := (Below.refl _ W).drew.trans (below_row hg2 (by omega) hB.size)
  have hl1 := (Array.getElem?_eq_some_iff.1 hp1).1
  have hl3 := (Array.getElem?_eq_some_iff.1 hp3).1
  exact ⟨(KeepsOthers.drew W).trans (KeepsOthers.of_grownBy hg2 fun j o e ho => by cases e; rw [show W.drew.heap[b2]? = W.heap[b2]? from rfl, hac] at ho; cases ho; rfl),
   ⟨hb9, fun hlt => hg2.block _ hlt (fun e => by cases e; omega)⟩,
   ⟨ha2, (hg2.block b1 hl1 (fun e => by cases e; omega)).trans hp1, (hg2.block b3 hl3 (fun e => by cases e; omega)).trans hp3⟩, hB.trans hb9⟩
 case done =>
  rintro D ys W hD rfl ⟨⟨ha, hp1, hp3⟩, hB⟩ hK
  have y3 := cell_one hp3
  rw [sumP_all] at ha
  gi_wp2
  refine ⟨by simp, .inl ⟨_, _, rfl, run_takeDeferred hK, ?_⟩⟩
  refine ⟨_, results_tmp rfl _ _ _, b2, rfl, by omega, ?_, hB.trans (belowK_b (w := w) (Nat.le_refl _) W D _ _ (by omega) hK rfl rfl)⟩
  unfold reachZ
  rw [hgu]
  exact acc_own ha (grownBy_putObj' _ D (.deferred none)) (fun r e => by cases e; exact ⟨_, hK, rfl⟩)
 case stop =>
  rintro D c pre W _ _ h _
  exact h.elim
end Go.Proofs.YtpfbgenefjhcjaaGreatDoor
