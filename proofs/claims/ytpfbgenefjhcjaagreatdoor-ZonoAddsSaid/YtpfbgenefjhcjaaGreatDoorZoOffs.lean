/- Accs in a list, each in a block of its own; zono.lists: two lists added, what is lost joined to the accs. -/
import Derived.Test.YtpfbgenefjhcjaaGreatDoorPZoOwns
import Derived.Test.YtpfbgenefjhcjaaGreatDoorPZoLif
import Derived.Test.YtpfbgenefjhcjaaGreatDoorPZoSup
namespace Go.Proofs.YtpfbgenefjhcjaaGreatDoor
set_option linter.unusedVariables false
set_option linter.unusedSimpArgs false
open Go Go.RowKit
set_option maxRecDepth 100000
/-- Nothing that stood is turned but these blocks. -/
structure Kept (bs : List Nat) (w w' : World) : Prop where
 os : w'.os = w.os
 tape : w'.tape = w.tape
 output : w'.output = w.output
 size : w.heap.size ≤ w'.heap.size
 block : ∀ k, k < w.heap.size → k ∉ bs → w'.heap[k]? = w.heap[k]?
theorem Kept.refl (bs : List Nat) (w : World) : Kept bs w w := ⟨rfl, rfl, rfl, Nat.le_refl _, fun _ _ _ => rfl⟩
theorem Kept.trans {bs : List Nat} {w w1 w2 : World} (h : Kept bs w w1) (h' : Kept bs w1 w2) : Kept bs w w2 :=
 ⟨h'.os.trans h.os, h'.tape.trans h.tape, h'.output.trans h.output, Nat.le_trans h.size h'.size, fun k hk hn => (h'.block k (Nat.lt_of_lt_of_le hk h.size) hn).trans (h.block k hk hn)⟩
theorem Kept.of_below (bs : List Nat) {w w1 : World} (h : Below w.heap.size w w1) : Kept bs w w1 := ⟨h.os, h.tape, h.output, h.size, fun k hk _ => h.block k hk⟩
theorem Kept.below {bs : List Nat} {w w1 : World} {B : Nat} (h : Kept bs w w1) (hB : B ≤ w.heap.size) (hb : ∀ b ∈ bs, B ≤ b) : Below B w w1 :=
 ⟨h.os, h.tape, h.output, h.size, fun k hk => h.block k (by omega) fun hm => by have := hb k hm; omega⟩
theorem Kept.cell {bs : List Nat} {w w1 : World} (h : Kept bs w w1) {p : Addr} {v : Value} (hp : p.block < w.heap.size) (hn : p.block ∉ bs) (hc : w.cell? p = some v) : w1.cell? p = some v := by
 rw [World.cell?_of_block (h.block _ hp hn)]
 exact hc
theorem Kept.row {bs : List Nat} {w w1 w2 : World} {r : Nat} (h : Kept bs w w1) (hg : w1.grownBy w2 (some r)) (hr : w.heap.size ≤ r ∨ r ∈ bs) : Kept bs w w2 :=
 ⟨hg.os.trans h.os, hg.tape.trans h.tape, hg.output.trans h.output, Nat.le_trans h.size hg.size, fun k hk hn => (hg.block k (Nat.lt_of_lt_of_le hk h.size) fun e => by
  cases e
  rcases hr with h1 | h1
  ·omega
  ·exact hn h1).trans (h.block k hk hn)⟩
theorem Kept.add {bs : List Nat} {w w1 w2 : World} (h : Kept bs w w1) (hb : Below w.heap.size w1 w2) : Kept bs w w2 :=
 ⟨hb.os.trans h.os, hb.tape.trans h.tape, hb.output.trans h.output, Nat.le_trans h.size hb.size, fun k hk hn => (hb.block k hk).trans (h.block k hk hn)⟩
theorem R1.kept {α : Type} {c : α → Value} {bs : List Nat} {w w1 : World} {A : Option Addr} {xs : List α} (h : R1 c w A xs) (hK : Kept bs w w1) (hA : ∀ p, A = some p → p.block ∉ bs) (j : Nat) (x : α) (hj : xs[j]? = some x) : ∃ b o : Nat, A = some ⟨b, o, none⟩ ∧ b < w1.heap.size ∧ w1.cell? ⟨b, o + j, none⟩ = some (c x) := by
 obtain ⟨b, o, e, h1, h2⟩ := h j x hj
 exact ⟨b, o, e, Nat.lt_of_lt_of_le h1 hK.size, hK.cell (p := ⟨b, o + j, none⟩) h1 (hA ⟨b, o, none⟩ e) h2⟩
theorem FlB.heap {w w1 : World} {g n : Nat} {us : List Nat} (h : FlB w g n us) (hb : w1.heap[g]? = w.heap[g]?) : FlB w1 g n us := by
 obtain ⟨cs, h1, h2, h3⟩ := h
 exact ⟨cs, hb.trans h1, h2, h3⟩
/-- A list of pointers to these blocks, under way. -/
def PtB (w : World) (g n : Nat) (bs : List Nat) : Prop := ∃ cs : Array Value, w.heap[g]? = some (.cells cs 112 (0, 0)) ∧ cs.size = n ∧ ∀ (j : Nat) (b : Nat), bs[j]? = some b → cs[j]? = some (.pointer (some ⟨b, 0, none⟩))
theorem PtB.lt {w : World} {g n : Nat} {bs : List Nat} (h : PtB w g n bs) : g < w.heap.size := by
 obtain ⟨cs, h1, _⟩ := h
 exact (Array.getElem?_eq_some_iff.1 h1).1
theorem PtB.heap {w w1 : World} {g n : Nat} {bs : List Nat} (h : PtB w g n bs) (hb : w1.heap[g]? = w.heap[g]?) : PtB w1 g n bs := by
 obtain ⟨cs, h1, h2, h3⟩ := h
 exact ⟨cs, hb.trans h1, h2, h3⟩
theorem PtB.at {w : World} {g n k : Nat} {bs : List Nat} (h : PtB w g n bs) (hk : k < n) : (∃ v, w.cell? ⟨g, k, none⟩ = some v) ∧ w.frozen? ⟨g, k, none⟩ = false := by
 obtain ⟨cs, h1, h2, h3⟩ := h
 refine ⟨⟨cs[k]'(by omega), ?_⟩, frozen_of_row w g _ _ _ h1⟩
 rw [cell_of_row _ _ _ _ _ _ h1]
 exact Array.getElem?_eq_getElem _
theorem PtB.get {w : World} {g n : Nat} {bs : List Nat} (h : PtB w g n bs) (j b : Nat) (hj : bs[j]? = some b) : w.cell? ⟨g, j, none⟩ = some (.pointer (some ⟨b, 0, none⟩)) := by
 obtain ⟨cs, h1, h2, h3⟩ := h
 rw [cell_of_row _ _ _ _ _ _ h1]
 exact h3 j b hj
theorem PtB.set {w : World} {g n k : Nat} {bs : List Nat} (h : PtB w g n bs) (hk : k < n) (hl : bs.length = k) (b : Nat) :
  PtB (w.setCell ⟨g, k, none⟩ (.pointer (some ⟨b, 0, none⟩))) g n (bs ++ [b]) ∧ w.grownBy (w.setCell ⟨g, k, none⟩ (.pointer (some ⟨b, 0, none⟩))) (some g) := by
 obtain ⟨cs, h1, h2, h3⟩ := h
 have e1 : (w.setCell ⟨g, k, none⟩ (.pointer (some ⟨b, 0, none⟩))).heap[g]? = _ := heap_setCell_same w g _ _ _ _ h1
 refine ⟨⟨_, e1, by simp [h2], fun j t ht => ?_⟩, grown_set (grown_refl w (some g)) _ _⟩
 rcases Nat.lt_or_ge j k with hj | hj
 ·rw [List.getElem?_append_left (by omega)] at ht
  rw [Array.getElem?_setIfInBounds, if_neg (by omega)]
  exact h3 j t ht
 ·have hj' : j = k := by
   have := (List.getElem?_eq_some_iff.1 ht).1
   rw [List.length_append, List.length_singleton] at this
   omega
  subst hj'
  rw [List.getElem?_append_right (by omega), hl, Nat.sub_self] at ht
  cases ht
  rw [Array.getElem?_setIfInBounds, if_pos rfl, if_pos (by omega)]
/-- Accs of these reals, each in a block of its own, behind the list. -/
structure Offs (w : World) (g n : Nat) (bs : List Nat) (f : Nat → Int) : Prop where
 ptr : PtB w g n bs
 acc : ∀ (j b : Nat), bs[j]? = some b → AccIs w b (some (f j))
 up : ∀ (j k b c : Nat), bs[j]? = some b → bs[k]? = some c → j < k → b < c
 ge : ∀ b ∈ bs, g < b
theorem Offs.lt {w : World} {g n : Nat} {bs : List Nat} {f : Nat → Int} (h : Offs w g n bs f) : ∀ b ∈ bs, b < w.heap.size := fun b hb => by
 obtain ⟨j, hj, rfl⟩ := List.mem_iff_getElem.1 hb
 exact (h.acc j _ (List.getElem?_eq_getElem hj)).lt
theorem Offs.below {w w1 : World} {g n : Nat} {bs : List Nat} {f : Nat → Int} (h : Offs w g n bs f) (hb : Below w.heap.size w w1) : Offs w1 g n bs f :=
 ⟨h.ptr.heap (hb.block _ h.ptr.lt), fun j b hj => (h.acc j b hj).heap (hb.block _ (h.acc j b hj).lt), h.up, h.ge⟩
theorem Offs.grown {w w1 : World} {g n : Nat} {bs : List Nat} {f : Nat → Int} {r : Nat} (h : Offs w g n bs f) (hg : w.grownBy w1 (some r)) (h1 : r ≠ g) (h2 : r ∉ bs) : Offs w1 g n bs f :=
 ⟨h.ptr.heap (hg.block _ h.ptr.lt fun e => by cases e; exact h1 rfl), fun j b hj => (h.acc j b hj).heap (hg.block _ (h.acc j b hj).lt fun e => by cases e; exact h2 (List.mem_of_getElem? hj)), h.up, h.ge⟩
theorem Offs.congr {w : World} {g n : Nat} {bs : List Nat} {f f' : Nat → Int} (h : Offs w g n bs f) (hf : ∀ j, j < bs.length → f j = f' j) : Offs w g n bs f' :=
 ⟨h.ptr, fun j b hj => by rw [← hf j (List.getElem?_eq_some_iff.1 hj).1]; exact h.acc j b hj, h.up, h.ge⟩
/-- One of them turned. -/
theorem Offs.turn {w w1 : World} {g n : Nat} {bs : List Nat} {f f' : Nat → Int} (h : Offs w g n bs f) (i b : Nat) (hi : bs[i]? = some b) (ha : AccIs w1 b (some (f' i))) (hg : w.grownBy w1 (some b)) (hf : ∀ j, j ≠ i → f' j = f j) : Offs w1 g n bs f' := by
 have hgb := h.ge b (List.mem_of_getElem? hi)
 refine ⟨h.ptr.heap (hg.block _ h.ptr.lt fun e => by cases e; omega), fun j c hj => ?_, h.up, h.ge⟩
 by_cases hji : j = i
 ·subst hji
  rw [hi] at hj
  cases hj
  exact ha
 ·rw [hf j hji]
  refine (h.acc j c hj).heap (hg.block _ (h.acc j c hj).lt fun e => ?_)
  cases e
  rcases Nat.lt_or_gt_of_ne hji with h1 | h1
  ·exact absurd (h.up j i _ _ hj hi h1) (Nat.lt_irrefl _)
  ·exact absurd (h.up i j _ _ hi hj h1) (Nat.lt_irrefl _)
/-- One more. -/
theorem Offs.more {w : World} {g n k : Nat} {bs : List Nat} {f : Nat → Int} (h : Offs w g n bs f) (hk : k < n) (hl : bs.length = k) (b : Nat) (hb : ∀ c ∈ bs, c < b) (hgb : g < b) (ha : AccIs w b (some (f k))) : Offs (w.setCell ⟨g, k, none⟩ (.pointer (some ⟨b, 0, none⟩))) g n (bs ++ [b]) f ∧ w.grownBy (w.setCell ⟨g, k, none⟩ (.pointer (some ⟨b, 0, none⟩))) (some g) := by
 obtain ⟨h1, h2⟩ := h.ptr.set hk hl b
 refine ⟨⟨h1, fun j c hj => ?_, fun j l c d hj hl' hlt => ?_, fun c hc => ?_⟩, h2⟩
 ·rcases Nat.lt_or_ge j k with hjk | hjk
  ·rw [List.getElem?_append_left (by omega)] at hj
   exact (h.acc j c hj).heap (h2.block _ (h.acc j c hj).lt fun e => by cases e; have := h.ge _ (List.mem_of_getElem? hj); omega)
  ·have hj' : j = k := by
    have := (List.getElem?_eq_some_iff.1 hj).1
    rw [List.length_append, List.length_singleton] at this
    omega
   subst hj'
   rw [List.getElem?_append_right (by omega), hl, Nat.sub_self] at hj
   cases hj
   exact ha.heap (h2.block _ ha.lt fun e => by cases e; omega)
 ·have hjl : j < k := by
   have := (List.getElem?_eq_some_iff.1 hl').1
   rw [List.length_append, List.length_singleton] at this
   omega
  rw [List.getElem?_append_left (by omega)] at hj
  rcases Nat.lt_or_ge l k with hlk | hlk
  ·rw [List.getElem?_append_left (by omega)] at hl'
   exact h.up j l c d hj hl' hlt
  ·have hl2 : l = k := by
    have := (List.getElem?_eq_some_iff.1 hl').1
    rw [List.length_append, List.length_singleton] at this
    omega
   subst hl2
   rw [List.getElem?_append_right (by omega), hl, Nat.sub_self] at hl'
   cases hl'
   exact hb c (List.mem_of_getElem? hj)
 ·rcases List.mem_append.1 hc with hc | hc
  ·exact h.ge c hc
  ·rw [List.mem_singleton] at hc
   subst hc
   exact hgb
/-! ### Two lists, added -/
def nearD (u v : Nat) : Nat × Bool := roundS 0 (some (fz u + fz v))
/-- What is lost there. -/
def lossZ (u v : Nat) : Int := zabs (fz u + fz v - fz (nearD u v).1)
theorem near_num (z : Int) : Num1 (roundS 0 (some z)).1 := by
 have h0 : Num1 0 := ⟨by decide, by decide, by decide⟩
 have hM : Num1 MAXB := ⟨by decide, by decide, by decide⟩
 have hN : Num1 (MAXB + 9223372036854775808) := ⟨by decide, by decide, by decide⟩
 rcases bet_any z with ⟨_, _, _, h | h⟩ | ⟨_, _, _, h | h⟩ | ⟨u, _, _, h, _, hn⟩ | ⟨a, b, _, _, h, _, _, _, ha, hb, _⟩
 ·rw [h]; exact h0
 ·rw [h]; exact hM
 ·rw [h]; exact h0
 ·rw [h]; exact hN
 ·rw [h]; exact hn
 ·rw [h]
  show Num1 (nearOf z a b)
  unfold nearOf
  split
  ·exact ha
  ·split
   ·exact hb
   ·split
    ·exact hb
    ·exact ha
def addT (a b : List Nat) : Nat → Option (List Nat)
 | 0 => some []
 | k + 1 => match addT a b k with
  | none => none
  | some l => if (nearD (a.getD k 0) (b.getD k 0)).2 = true then some (l ++ [(nearD (a.getD k 0) (b.getD k 0)).1]) else none
theorem addT_none {a b : List Nat} {k : Nat} (h : addT a b k = none) : ∀ m, k ≤ m → addT a b m = none := by
 intro m
 induction m with
 | zero =>
  intro hm; obtain rfl : k = 0 := by omega
  exact h
 | succ m ih =>
  intro hm
  rcases Nat.lt_or_ge k (m + 1) with h1 | h1
  ·unfold addT
   rw [ih (by omega)]
  ·obtain rfl : k = m + 1 := by omega
   exact h
theorem addT_more {a b : List Nat} {k : Nat} {l : List Nat} (h : addT a b k = some l) (hr : (nearD (a.getD k 0) (b.getD k 0)).2 = true) : addT a b (k + 1) = some (l ++ [(nearD (a.getD k 0) (b.getD k 0)).1]) := by
 show (match addT a b k with | none => none | some l => _) = _
 rw [h]
 exact if_pos hr
theorem addT_over {a b : List Nat} {k : Nat} {l : List Nat} (h : addT a b k = some l) (hr : (nearD (a.getD k 0) (b.getD k 0)).2 = false) : addT a b (k + 1) = none := by
 show (match addT a b k with | none => none | some l => _) = _
 rw [h]
 exact if_neg (by rw [hr]; decide)
theorem addT_len {a b : List Nat} : ∀ {k : Nat} {l : List Nat}, addT a b k = some l → l.length = k := by
 intro k
 induction k with
 | zero => intro l h; cases h; rfl
 | succ k ih =>
  intro l h
  cases hb : addT a b k with
  | none => rw [addT_none hb _ (Nat.le_succ _)] at h; cases h
  | some l' =>
   cases ho : (nearD (a.getD k 0) (b.getD k 0)).2 with
   | false => rw [addT_over hb ho] at h; cases h
   | true =>
    rw [addT_more hb ho] at h
    cases h
    rw [List.length_append, ih hb]
    rfl
/-- Whether one of them is not nought. -/
def anyF (l : List Nat) : Bool := l.any fun u => !decide (fz u = 0)
theorem anyF_snoc (l : List Nat) (u : Nat) : anyF (l ++ [u]) = (anyF l || !decide (fz u = 0)) := by
 unfold anyF
 rw [List.any_append, List.any_cons, List.any_nil, Bool.or_false]
theorem fz_nf (u : Nat) (h : u < B64) : fz (nf u) = -fz u := by
 rw [← fz_prod, nf_prodZ u h, fz_prod]
theorem loss_bound {u v : Nat} (hu : fexp u ≠ 2047) (hv : fexp v ≠ 2047) : (lossZ u v).natAbs ≤ 3 * FB := by
 have h1 := fz_lt u hu
 have h2 := fz_lt v hv
 have h3 := fz_lt _ (near_num (fz u + fz v)).1
 unfold lossZ
 rw [zabs_natAbs]
 show (fz u + fz v - fz (roundS 0 (some (fz u + fz v))).1).natAbs ≤ 3 * FB
 omega
def TellsAdd (w : World) (go n : Nat) (bs : List Nat) (f : Nat → Int) (a b : List Nat) (e : Ending) (w' : World) : Prop :=
 (∃ l g, addT a b n = some l ∧ e = .returned (.tuple #[.slice (some ⟨g, 0, none⟩) n n, .bool (anyF l), .bool true]) ∧ w.heap.size ≤ g ∧ FlB w' g n l ∧ Offs w' go n bs (fun j => f j + lossZ (a.getD j 0) (b.getD j 0)) ∧ Kept bs w w') ∨
 (addT a b n = none ∧ e = .returned (.tuple #[.slice none 0 0, .bool false, .bool false]) ∧ Kept bs w w')
attribute [local go_sem] run_store_flt
set_option maxHeartbeats 8000000 in
theorem add_lists (w : World) (A B : Option Addr) (ca cb n go ko : Nat) (a b bs : List Nat) (f : Nat → Int) (ha : FR w A a) (hb : FR w B b) (hla : a.length = n) (hlb : b.length = n) (sa : Small a) (sb : Small b) (na : ∀ u ∈ a, fexp u ≠ 2047) (nb : ∀ u ∈ b, fexp u ≠ 2047)
  (hO : Offs w go n bs f) (hbl : bs.length = n) (hn : n ≤ 1000000) (hf : ∀ j, j < n → (f j).natAbs + 3 * FB < LIM) (hga : ∀ p, A = some p → p.block ∉ bs) (hgb : ∀ p, B = some p → p.block ∉ bs) :
  Calls Tryz.prog 99 #[.slice A n ca, .slice B n cb, .slice (some ⟨go, 0, none⟩) n ko] w fun e w' => TellsAdd w go n bs f a b e w' := by
 have hmk := make_flts n hn
 have hgo := hO.ptr.lt
 go_enter Tryz.func99, Tryz.ntmps99
 go_upto_region 2 with fail
 have kf : FlB (w.alloc (.cells (madeCells #[.float .f64 0] n) 43)) w.heap.size n [] := ⟨_, World.alloc_heap_new _ _, size_madeCells _ _, fun j s hs => by simp at hs⟩
 have kb : Below w.heap.size w (w.alloc (.cells (madeCells #[.float .f64 0] n) 43)) := below_alloc _ _
 have ko' := hO.below kb
 have hsz := World.size_alloc w (.cells (madeCells #[.float .f64 0] n) 43)
 generalize w.alloc (.cells (madeCells #[.float .f64 0] n) 43) = W2 at *
 clear hmk
 obtain ⟨g, hg⟩ : ∃ g, w.heap.size = g := ⟨_, rfl⟩
 rw [hg] at kf kb hsz ⊢
 go_wp2_with fail
 go_loopw [10, 20] (fun fl kk wr => ∃ (k : Nat) (l : List Nat), k ≤ n ∧ kk = .int .i64 (k : Nat) ∧ fl = .bool (anyF l) ∧ addT a b k = some l ∧ FlB wr g n l ∧ Offs wr go n bs (fun j => if j < k then f j + lossZ (a.getD j 0) (b.getD j 0) else f j) ∧ Kept bs w wr ∧ g < wr.heap.size) (fun _ kk _ => n - (intOf kk).toNat)
 case atStart => exact ⟨0, [], Nat.zero_le _, rfl, rfl, rfl, kf, ko'.congr fun j _ => by rw [if_neg (Nat.not_lt_zero j)], Kept.of_below bs (by rw [hg]; exact kb), by omega⟩
 case round =>
  obtain ⟨k, l, hk, rfl, rfl, hT, hF, hOk, hK, hgw⟩ := hrel
  clear kf ko' kb hsz
  by_cases hlt : k < n
  ·have hlt' : (k : Int) < (n : Int) := by omega
   obtain ⟨u, hu⟩ := get_some a k (by omega)
   obtain ⟨v, hv⟩ := get_some b k (by omega)
   obtain ⟨bk, hbk⟩ := get_some bs k (by omega)
   have hgu : a.getD k 0 = u := by rw [List.getD_eq_getElem?_getD, hu, Option.getD_some]
   have hgv : b.getD k 0 = v := by rw [List.getD_eq_getElem?_getD, hv, Option.getD_some]
   have nu := na u (List.mem_of_getElem? hu)
   have nv := nb v (List.mem_of_getElem? hv)
   have u64 := sa.at k u hu
   have v64 := sb.at k v hv
   have hfu := fz_lt u nu
   have hfv := fz_lt v nv
   have hbm := List.mem_of_getElem? hbk
   obtain ⟨ba, oa, rfl, hla1, c1⟩ := R1.kept ha hK hga k u hu
   obtain ⟨bb, ob, rfl, hlb1, c2⟩ := R1.kept hb hK hgb k v hv
   have c1' : wr.cell? ⟨ba, oa + k, none⟩ = some (.float .f64 u) := c1
   have c2' : wr.cell? ⟨bb, ob + k, none⟩ = some (.float .f64 v) := c2
   have hnw : nearD u v = nearD (a.getD k 0) (b.getD k 0) := by rw [hgu, hgv]
   obtain ⟨q, ok, hq⟩ : ∃ q ok, nearD u v = (q, ok) := ⟨_, _, rfl⟩
   have hqn : Num1 q := by have := near_num (fz u + fz v); unfold nearD at hq; rw [hq] at this; exact this
   have hfq := fz_lt q hqn.1
   have hloss : lossZ u v = zabs (fz u + fz v + fz (nf q)) := by
    unfold lossZ
    rw [hq, fz_nf q hqn.2.1]
    rfl
   have a1 : addS (some 0) u = some (fz u) := by rw [addS_some 0 u nu (by rw [Int.zero_add]; exact few_ltF _ 1 (by decide) (by omega)), Int.zero_add]
   have a2 : addS (some (fz u)) v = some (fz u + fz v) := addS_some _ v nv (few_ltF _ 2 (by decide) (by omega))
   have a3 : addS (some (fz u + fz v)) (nf q) = some (fz u + fz v + fz (nf q)) := addS_some _ (nf q) (by rw [nf_fexp q hqn.2.1]; exact hqn.1) (few_ltF _ 3 (by decide) (by rw [fz_nf q hqn.2.1]; omega))
   have hbnd := loss_bound nu nv
   have a4 : joinS (some (f k)) (some (zabs (fz u + fz v + fz (nf q)))) false = some (f k + lossZ u v) := by
    rw [hloss] at hbnd ⊢
    have := hf k hlt
    exact clip_some (f k + zabs (fz u + fz v + fz (nf q))) (by omega)
   have hrd : roundS 0 (some (fz u + fz v)) = (q, ok) := hq
   have q64 := hqn.2.1
   have hQ := Lib.hid (And.intro hqn (And.intro hnw hq))
   have HT := Lib.hid hT
   have HL := Lib.hid (And.intro hgu hgv)
   have HA := Lib.hid (And.intro a3 a4)
   clear hu hv hgu hgv nu nv hfu hfv c1 c2 hnw hq hqn hfq hbnd hloss hT a3 a4
   have x1 := World.alloc_heap_new wr (.cells (accCells 0 false) 163)
   have y1 := below_alloc wr (.cells (accCells 0 false) 163)
   go_wp2_with fail
   refine (new_any _).mono ?_
   rintro e _ ⟨rfl, rfl⟩
   generalize wr.alloc (.cells (accCells 0 false) 163) = W1 at *
   have z1 := acc_zero x1
   have c1 := (y1.cell (p := ⟨ba, oa + k, none⟩) hla1).trans c1'
   have hp1 := add_any W1 wr.heap.size u _ z1 u64
   rw [a1] at hp1
   clear x1 c1'
   go_wp2_with fail
   refine hp1.mono ?_
   rintro e W3 ⟨rfl, z3, g3⟩
   have y3 := y1.trans (below_row g3 (Nat.le_refl _) y1.size)
   have c2 := (y3.cell (p := ⟨bb, ob + k, none⟩) hlb1).trans c2'
   have hp3 := add_any W3 wr.heap.size v _ z3 v64
   rw [a2] at hp3
   clear c1 hp1 z1 y1 g3 c2' a1
   go_wp2_with fail
   refine hp3.mono ?_
   rintro e W5 ⟨rfl, z5, g5⟩
   have y5 := y3.trans (below_row g5 (Nat.le_refl _) y3.size)
   have hp5 := round_any W5 wr.heap.size 0 _ z5 (by decide) (by decide)
   rw [hrd] at hp5
   clear c2 hp3 z3 y3 g5 a2
   go_wp2_with fail
   refine hp5.mono ?_
   rintro e W6 ⟨rfl, h6⟩
   have z6 := z5.heap (h6.block _ z5.lt)
   have y6 := y5.trans (h6.mono y5.size)
   clear hp5 z5 y5 h6 hrd
   cases ok with
   | false =>
    go_wp2_with fail
    refine bodyPost_ret (v := .tuple #[.slice none 0 0, .bool false, .bool false]) (by simp [results, Tryz.results99, go_sem]) rfl ?_
    refine Or.inr ⟨?_, rfl, hK.add (y6.mono hK.size)⟩
    have h1 := HL.out
    have h2 := hQ.out
    refine addT_none (addT_over HT.out ?_) n hlt
    rw [← h2.2.1, h2.2.2]
   | true =>
    have hneg : ∀ w, Sem.run Tryz.prog (Op.unary UnOp.neg (.float .f64 q)) w = .ok (.float .f64 (nf q)) w := fun _ => rfl
    have hp6 := add_any W6 wr.heap.size (nf q) _ z6 (nf_lt q q64)
    rw [HA.out.1] at hp6
    go_wp2_with fail
    refine hp6.mono ?_
    rintro e W7 ⟨rfl, z7, g7⟩
    have y7 := y6.trans (below_row g7 (Nat.le_refl _) y6.size)
    have hp7 := Abs_acc W7 wr.heap.size _ z7
    clear hp6 z6 y6 g7 hneg
    go_wp2_with fail
    refine hp7.mono ?_
    rintro e W8 ⟨rfl, z8, g8⟩
    have y8 := y7.trans (below_row g8 (Nat.le_refl _) y7.size)
    have o8 := hOk.below y8
    have q8 := o8.acc k bk hbk
    rw [if_neg (Nat.lt_irrefl k)] at q8
    have c8 := o8.ptr.get k bk hbk
    have hp8 := join_any W8 bk wr.heap.size _ _ false q8 z8
    rw [show (some (fz u + fz v + fz (nf q))).map zabs = some (zabs (fz u + fz v + fz (nf q))) from rfl, HA.out.2] at hp8
    clear hp7 z7 y7 g8
    go_wp2_with fail
    refine hp8.mono ?_
    rintro e W9 ⟨rfl, z9, g9⟩
    have hbw := hO.lt bk hbm
    have hF8 := hF.below y8
    have hF9 := hF8.heap (g9.block g hF8.lt fun e => by cases e; omega)
    have o9 := o8.turn k bk hbk (f' := fun j => if j < k + 1 then f j + lossZ (a.getD j 0) (b.getD j 0) else f j) (by
     rw [if_pos (Nat.lt_succ_self k), HL.out.1, HL.out.2]
     exact z9) g9 (fun j hj => by
     by_cases h1 : j < k
     ·rw [if_pos h1, if_pos (by omega)]
     ·rw [if_neg h1, if_neg (by omega)])
    have hK9 := (hK.add (y8.mono hK.size)).row g9 (Or.inr hbm)
    obtain ⟨⟨c, c0⟩, c1⟩ := hF9.at hlt
    obtain ⟨s1, g1⟩ := hF9.set hlt (addT_len HT.out) q
    have o10 := o9.grown g1 (by omega) (fun hm => by have := hO.lt _ hm; omega)
    have hK10 := hK9.row g1 (Or.inl (by omega))
    have hT1 := addT_more HT.out (by rw [← hQ.out.2.1, hQ.out.2.2])
    rw [← hQ.out.2.1, hQ.out.2.2] at hT1
    have hgw1 : g < (W9.setCell ⟨g, k, none⟩ (.float .f64 q)).heap.size := Nat.lt_of_lt_of_le hF9.lt g1.size
    have hne : (FloatKind.f64.format.order q 0 == some .eq) = decide (fz q = 0) := by
     have := order_eq_iff q 0 hQ.out.1.2.1 (by decide) hQ.out.1.1 (by decide)
     rw [fz_zero] at this
     exact this
    have hsn := anyF_snoc l q
    generalize decide (fz q = 0) = dq at *
    generalize anyF l = al at *
    have HSN := Lib.hid hsn
    have HNE := Lib.hid hne
    clear hne
    have HG := Lib.hid (And.intro s1 (And.intro o10 (And.intro hK10 (And.intro hT1 hgw1))))
    clear hp8 z8 y8 o8 q8 c8 z9 g9 hF8 hF9 o9 hK9 s1 g1 o10 hK10 hT1 hgw1 hsn HT HA hQ HL hOk hF hK
    cases al with
    | true =>
     go_wp2_with fail
     go_roundw
     case rel => exact ⟨k + 1, l ++ [q], hlt, by go_num, by rw [HSN.out]; rfl, HG.out.2.2.2.1, HG.out.1, HG.out.2.1, HG.out.2.2.1, HG.out.2.2.2.2⟩
     case measure => simp [intOf]; omega
    | false =>
     go_wp2_with fail
     go_roundw
     case rel => exact ⟨k + 1, l ++ [q], hlt, by go_num, by rw [HSN.out, Bool.false_or, ← HNE.out]; rfl, HG.out.2.2.2.1, HG.out.1, HG.out.2.1, HG.out.2.2.1, HG.out.2.2.2.2⟩
     case measure => simp [intOf]; omega
  ·have hkn : k = n := by omega
   subst hkn
   have hlt' : decide ((k : Int) < (k : Nat)) = false := by simp
   have HG := Lib.hid (And.intro hT (And.intro hF (And.intro hOk hK)))
   clear hT hF hOk hK
   go_wp2_with fail
   refine bodyPost_ret (v := .tuple #[.slice (some ⟨g, 0, none⟩) k k, .bool (anyF l), .bool true]) (by simp [results, Tryz.results99, go_sem]) rfl ?_
   exact Or.inl ⟨l, g, HG.out.1, rfl, by omega, HG.out.2.1, HG.out.2.2.1.congr fun j hj => by rw [if_pos (by omega)], HG.out.2.2.2⟩
end Go.Proofs.YtpfbgenefjhcjaaGreatDoor
