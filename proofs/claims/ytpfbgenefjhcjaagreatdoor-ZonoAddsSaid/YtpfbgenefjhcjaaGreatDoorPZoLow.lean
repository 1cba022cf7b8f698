/-
 A region that draws its order and ends in stores that wait for all the rest: what reads may be taken first, though a late store turns its cell.
 Rows of floats, whole numbers and lists that lie in memory; rows of the call's own, made by append.
 Floats: what is a number; a number's size; what is no number. round.Number; math.Abs, IsNaN, IsInf.
 Lists of floats, read: row, equal (zono); Bits, same (ambitref10); what a list is cut out of: wide, kept (ambitlaw10).
 What a list is cut out of, and the marks behind it: wide, kept (ambitlaw10).
 zono.good, lost, Check, bad.
-/
import Derived.Test.YtpfbgenefjhcjaaGreatDoorPRefCmp
import Derived.Test.YtpfbgenefjhcjaaGreatDoorPFltPl
import Derived.Test.YtpfbgenefjhcjaaGreatDoorProg
import Derived.Deep.RegionHeld3
import Derived.Maps.AppendAt
import Derived.Laws.OwnMore
import Derived.Laws.AppendOwnNone
import Derived.Deep.AppendLies
import Derived.Deep.RegionLaw
import Derived.Deep.QuietTactic
import Derived.BigQuiet
import Derived.Lib.Hide
import Derived.IntWalk
namespace Go.Proofs.YtpfbgenefjhcjaaGreatDoor
set_option linter.unusedVariables false
set_option linter.unusedSimpArgs false
open Go
section
variable {P : Program} {ops : Array Oper} {Q : Exit → Act → World → Prop} {md : Region.Mode} {S : World → Prop} {lates : List Nat}
/-- Whatever order is picked; behind each operation that is not one of 'lates' S is shown. -/
def wpLate (P : Program) (md : Region.Mode) (ops : Array Oper) (Q : Exit → Act → World → Prop) (S : World → Prop) (lates : List Nat) : Nat → Array Bool → Act → World → Prop
 | 0, listed, a, w => Region.ready md ops listed = [] ∧ Q .normal a w
 | n + 1, listed, a, w => (Region.ready md ops listed = [] → Q .normal a w) ∧
  ∀ j ∈ Region.ready md ops listed, wpOp P ops Q j (fun a' w' => (j ∈ lates ∨ S w') ∧ wpLate P md ops Q S lates n (listed.setIfInBounds j true) a' w') a w
theorem wpAny_of_late : ∀ (n : Nat) (listed : Array Bool) (a : Act) (w : World), wpLate P md ops Q S lates n listed a w → wpAny P md ops Q n listed a w
 | 0, _, _, _, h => h
 | n + 1, _, _, _, h => ⟨h.1, fun j hj => wpOp_mono (fun a' w' h' => wpAny_of_late n _ a' w' h'.2) (h.2 j hj)⟩
/-- Every late operation waits for number i. -/
def waitsB (md : Region.Mode) (ops : Array Oper) (lates : List Nat) (i : Nat) : Bool :=
 !lates.contains i && lates.all fun l => match ops[l]? with | none => true | some o => o.after.any fun e => Region.binds md e && e.on == i
theorem late_not_ready {i j : Nat} {listed : Array Bool} (hb : waitsB md ops lates i = true) (hi : listed.getD i true = false) (hj : j ∈ Region.ready md ops listed) : j ∉ lates := by
 intro hl
 obtain ⟨_, o, ho, hall⟩ := mem_ready.1 hj
 unfold waitsB at hb
 rw [Bool.and_eq_true, List.all_eq_true] at hb
 have h1 := hb.2 j hl
 rw [ho] at h1
 obtain ⟨e, he, h2⟩ := Array.any_eq_true'.1 h1
 rw [Bool.and_eq_true, beq_iff_eq] at h2
 have h3 := hall e he h2.1
 rw [h2.2] at h3
 rcases Nat.lt_or_ge i listed.size with h' | h'
 ·simp [h'] at hi h3
  rw [hi] at h3
  cases h3
 ·simp [Array.getElem?_eq_none h'] at h3
theorem late_first {i : Nat} {oi : Oper} {v : Value} (hi : ops[i]? = some oi) (hsel : ∀ (j : Nat) (o : Oper) cs b, ops[j]? = some o → o.op ≠ .select cs b) (hb : waitsB md ops lates i = true)
  (hQ : ∀ c a w, Q (.panic c) (a.put oi.dst v) w → Q (.panic c) a w) :
  ∀ (n : Nat) (listed : Array Bool) (a : Act) (w : World),
   (∀ j oj, ops[j]? = some oj → j ≠ i → listed.getD j true = false → (∀ e ∈ oj.after, Region.binds md e = true → e.on ≠ i) → oi.apart ops oj = true) →
   i ∈ Region.ready md ops listed → YieldsIf P ops S oi v a → S w →
   wpLate P md ops Q S lates n (listed.setIfInBounds i true) (a.put oi.dst v) w → wpLate P md ops Q S lates (n + 1) listed a w := by
 intro n
 induction n with
 | zero =>
  intro listed a w _ hr hy hS H
  refine ⟨fun h => (by rw [h] at hr; cases hr), fun j hj => ?_⟩
  by_cases e : j = i
  ·subst e
   exact hy.wpOp hi hS ⟨Or.inr hS, H⟩
  ·have := ready_mono hj e
   rw [H.1] at this
   cases this
 | succ n ih =>
  intro listed a w hfree hr hy hS H
  have hiu := (mem_ready.1 hr).1
  refine ⟨fun h => (by rw [h] at hr; cases hr), fun j hj => ?_⟩
  by_cases e : j = i
  ·subst e
   exact hy.wpOp hi hS ⟨Or.inr hS, H⟩
  ·have hnl := late_not_ready hb hiu hj
   have h1 := H.2 j (ready_mono hj e)
   obtain ⟨hju, oj, hoj, hall⟩ := mem_ready.1 hj
   have hno : ∀ e' ∈ oj.after, Region.binds md e' = true → e'.on ≠ i := fun e' he hbn heq => by
    have h2 := hall e' he hbn
    rw [heq] at h2
    rcases Nat.lt_or_ge i listed.size with h' | h'
    ·simp [h'] at hiu h2
     rw [hiu] at h2
     cases h2
    ·simp [Array.getElem?_eq_none h'] at h2
   have h2 := wpOp_putIf hoj (hfree j oj hoj e hju hno) (fun cs b => hsel i oi cs b hi) (fun cs b => hsel j oj cs b hoj) hQ hy h1
   have hfree' : ∀ k ok, ops[k]? = some ok → k ≠ i → (listed.setIfInBounds j true).getD k true = false → (∀ e' ∈ ok.after, Region.binds md e' = true → e'.on ≠ i) → oi.apart ops ok = true := fun k ok hk hki hun hn => by
    refine hfree k ok hk hki ?_ hn
    by_cases hjk : j = k
    ·subst hjk; exact hju
    ·rw [getD_set_ne true hjk] at hun; exact hun
   refine wpOp_mono (fun a' w' h3 => ?_) h2
   have hS' : S w' := h3.2.1.resolve_left hnl
   refine ⟨Or.inr hS', ih (listed.setIfInBounds j true) a' w' hfree' (ready_mono hr (Ne.symm e)) h3.1 hS' ?_⟩
   rw [Array.setIfInBounds_comm _ _ e]
   exact h3.2.2
/-- Take number i first: it yields v in every world that meets S. -/
theorem late_take {i : Nat} (d : Option Tmp) {oi : Oper} {v : Value} {n : Nat} {listed : Array Bool} {a : Act} {w : World} (hi : ops[i]? = some oi) (hd : oi.dst = d)
  (hs : Region.noSelect ops = true) (hf : Region.free md ops listed i = true) (hr : (Region.ready md ops listed).contains i = true) (hb : waitsB md ops lates i = true)
  (hQ : ∀ c a w, Q (.panic c) (a.put d v) w → Q (.panic c) a w) (hw : Region.wanted oi (yielded ops a.tmps) = true) (hS : S w)
  (hy : ∀ w, S w → (execOp a.eval oi).run P w = .ok (.value v) w)
  (h : wpLate P md ops Q S lates n (listed.setIfInBounds i true) (a.put d v) w) : wpLate P md ops Q S lates (n + 1) listed a w := by
 subst hd
 exact late_first hi (Region.noSelect_spec hs) hb hQ n listed a w (Region.free_spec hi hf) (by simpa using hr) (Or.inl ⟨hw, hy⟩) hS h
/-- Number i is not wanted: its guard is shut. -/
theorem late_skip {i : Nat} (d : Option Tmp) {oi : Oper} {n : Nat} {listed : Array Bool} {a : Act} {w : World} (hi : ops[i]? = some oi) (hd : oi.dst = d)
  (hs : Region.noSelect ops = true) (hf : Region.free md ops listed i = true) (hr : (Region.ready md ops listed).contains i = true) (hb : waitsB md ops lates i = true)
  (hQ : ∀ c a w, Q (.panic c) (a.put d undef) w → Q (.panic c) a w) (hw : Region.wanted oi (yielded ops a.tmps) = false) (hS : S w)
  (h : wpLate P md ops Q S lates n (listed.setIfInBounds i true) (a.put d undef) w) : wpLate P md ops Q S lates (n + 1) listed a w := by
 subst hd
 exact late_first hi (Region.noSelect_spec hs) hb hQ n listed a w (Region.free_spec hi hf) (by simpa using hr) (Or.inr ⟨hw, rfl⟩) hS h
/-- The one operation that may come up. -/
theorem late_one {i : Nat} {o : Oper} {n : Nat} {listed : Array Bool} {a : Act} {w : World} (ho : ops[i]? = some o) (hr : Region.ready md ops listed = [i])
  (h : ∀ K' : Act → World → Prop, Shut (∀ a w, i ∈ lates ∨ S w → wpLate P md ops Q S lates n (listed.setIfInBounds i true) a w → K' a w) → if Region.wanted o (yielded ops a.tmps) = true then Oper.wp P o a w K' Q else K' (a.put o.dst undef) w) :
  wpLate P md ops Q S lates (n + 1) listed a w := by
 refine ⟨fun h0 => (by rw [hr] at h0; cases h0), fun j hj => ?_⟩
 rw [hr] at hj
 obtain rfl : j = i := by simpa using hj
 exact wpOp_step ho (fun K' hK => h K' (show Shut _ from fun a w h1 h2 => hK a w ⟨h1, h2⟩))
theorem late_done {listed : Array Bool} {a : Act} {w : World} (hr : Region.ready md ops listed = []) (h : Q .normal a w) : ∀ n, wpLate P md ops Q S lates n listed a w
 | 0 => ⟨hr, h⟩
 | _ + 1 => ⟨fun _ => h, by rw [hr]; simp⟩
theorem late_begin (S : World → Prop) (lates : List Nat) {id : Nat} {a : Act} {w : World} (hm : P.follows .mixedOrders = true)
  (h : wpLate P .any ops Q S lates ops.size (Array.replicate ops.size false) a w.drew) : (Code.region id ops true).wp P Q a w :=
 wp_region_any hm (wpAny_of_late _ _ _ _ h)
/-- A list of operations, each by its number. -/
def EachOp (R : Nat → Oper → Prop) : Nat → List Oper → Prop
 | _, [] => True
 | k, o :: r => R k o ∧ EachOp R (k + 1) r
theorem EachOp.get {R : Nat → Oper → Prop} : ∀ {l : List Oper} {k i : Nat} {o : Oper}, EachOp R k l → l[i]? = some o → R (k + i) o
 | [], _, _, _, _, h => by simp at h
 | x :: r, k, 0, o, h, ho => by
  have : x = o := by simpa using ho
  subst this
  exact h.1
 | x :: r, k, i + 1, o, h, ho => by
  have := h.2.get (i := i) (by simpa using ho)
  rw [show k + (i + 1) = k + 1 + i by omega]
  exact this
end
end Go.Proofs.YtpfbgenefjhcjaaGreatDoor
namespace Go.Proofs.YtpfbgenefjhcjaaGreatDoor
set_option linter.unusedVariables false
set_option linter.unusedSimpArgs false
open Go Go.RowKit
set_option maxRecDepth 100000
theorem addr_add (b o j : Nat) : (⟨b, o, none⟩ : Addr).add j = ⟨b, o + j, none⟩ := by
 unfold Addr.add
 split
 ·next h => subst h; rfl
 ·rfl
/-- A row of one-cell elements that lies in memory: its cell j is c of the list's element j. -/
def R1 {α : Type} (c : α → Value) (w : World) (A : Option Addr) (xs : List α) : Prop :=
 ∀ (j : Nat) (x : α), xs[j]? = some x → ∃ b o : Nat, A = some ⟨b, o, none⟩ ∧ b < w.heap.size ∧ w.cell? ⟨b, o + j, none⟩ = some (c x)
theorem R1.below {α : Type} {c : α → Value} {w w1 : World} {A : Option Addr} {xs : List α} (h : R1 c w A xs) {B : Nat} (hB : w.heap.size ≤ B) (hb : Below B w w1) : R1 c w1 A xs := fun j x hx => by
 obtain ⟨b, o, rfl, h1, h2⟩ := h j x hx
 exact ⟨b, o, rfl, Nat.lt_of_lt_of_le h1 hb.size, (hb.cell (p := ⟨b, o + j, none⟩) (Nat.lt_of_lt_of_le h1 hB)).trans h2⟩
theorem R1.at {α : Type} {c : α → Value} {w w1 : World} {A : Option Addr} {xs : List α} (h : R1 c w A xs) (hb : Below w.heap.size w w1) (j : Nat) (x : α) (hx : xs[j]? = some x) :
  ∃ b o : Nat, A = some ⟨b, o, none⟩ ∧ b < w.heap.size ∧ w1.cell? ⟨b, o + j, none⟩ = some (c x) := by
 obtain ⟨b, o, e, h1, h2⟩ := h j x hx
 exact ⟨b, o, e, h1, (hb.cell (p := ⟨b, o + j, none⟩) h1).trans h2⟩
theorem R1.nil {α : Type} (c : α → Value) (w : World) (A : Option Addr) : R1 c w A [] := fun j x hx => by simp at hx
def cU (u : Nat) : Value := .int .u64 (u : Int)
def cF (u : Nat) : Value := .float .f64 u
def cI (n : Int) : Value := .int .i64 n
def cV (v : Value) : Value := v
abbrev FR (w : World) (A : Option Addr) (us : List Nat) : Prop := R1 cF w A us
abbrev UR (w : World) (A : Option Addr) (us : List Nat) : Prop := R1 cU w A us
abbrev IR (w : World) (A : Option Addr) (zs : List Int) : Prop := R1 cI w A zs
/-- A row of rows: element k is a slice of the list's element k. -/
def RR {α : Type} (c : α → Value) (w : World) (A : Option Addr) (gs : List (List α)) : Prop :=
 ∀ (k : Nat) (g : List α), gs[k]? = some g → ∃ b o : Nat, A = some ⟨b, o, none⟩ ∧ b < w.heap.size ∧
  ∃ (B : Option Addr) (cap : Nat), w.cell? ⟨b, o + k, none⟩ = some (.slice B g.length cap) ∧ g.length ≤ cap ∧ cap ≤ maxLen ∧ R1 c w B g
theorem RR.below {α : Type} {c : α → Value} {w w1 : World} {A : Option Addr} {gs : List (List α)} (h : RR c w A gs) (hb : Below w.heap.size w w1) : RR c w1 A gs := fun k g hg => by
 obtain ⟨b, o, rfl, h1, B, cap, h2, h3, h4, h5⟩ := h k g hg
 exact ⟨b, o, rfl, Nat.lt_of_lt_of_le h1 hb.size, B, cap, (hb.cell (p := ⟨b, o + k, none⟩) h1).trans h2, h3, h4, h5.below (Nat.le_refl _) hb⟩
theorem RR.at {α : Type} {c : α → Value} {w w1 : World} {A : Option Addr} {gs : List (List α)} (h : RR c w A gs) (hb : Below w.heap.size w w1) (k : Nat) (g : List α) (hg : gs[k]? = some g) :
  ∃ b o : Nat, A = some ⟨b, o, none⟩ ∧ b < w.heap.size ∧ ∃ (B : Option Addr) (cap : Nat), w1.cell? ⟨b, o + k, none⟩ = some (.slice B g.length cap) ∧ g.length ≤ cap ∧ cap ≤ maxLen ∧ R1 c w1 B g := by
 obtain ⟨b, o, e, h1, B, cap, h2, h3, h4, h5⟩ := h k g hg
 exact ⟨b, o, e, h1, B, cap, (hb.cell (p := ⟨b, o + k, none⟩) h1).trans h2, h3, h4, h5.below (Nat.le_refl _) hb⟩
abbrev GR (w : World) (A : Option Addr) (gs : List (List Nat)) : Prop := RR cF w A gs
/-- A row of the call's own, made by append: elements of m cells each. -/
def OwnG {α : Type} (c : α → List Value) (e : TypeId) (m : Nat) (w : World) (base : Nat) (v : Value) (xs : List α) : Prop := w.ownsRow base e m v xs.length (xs.flatMap c)
theorem flat_length {α : Type} (c : α → List Value) (m : Nat) (hc : ∀ x, (c x).length = m) (xs : List α) : (xs.flatMap c).length = xs.length * m := by
 induction xs with
 | nil => simp
 | cons x r ih => rw [List.flatMap_cons, List.length_append, ih, hc, List.length_cons, Nat.add_mul]; omega
theorem flat_get {α : Type} (c : α → List Value) (m : Nat) (hc : ∀ x, (c x).length = m) (xs : List α) (j : Nat) (x : α) (hx : xs[j]? = some x) (i : Nat) (hi : i < m) : (xs.flatMap c)[j * m + i]? = (c x)[i]? := by
 induction xs generalizing j with
 | nil => simp at hx
 | cons y r ih =>
  rw [List.flatMap_cons]
  cases j with
  | zero =>
   cases hx
   rw [List.getElem?_append_left (by rw [hc]; omega)]
   congr 1
   omega
  | succ j =>
   have e : (j + 1) * m + i = m + (j * m + i) := by rw [Nat.add_mul]; omega
   rw [e, List.getElem?_append_right (by rw [hc]; omega), hc, Nat.add_sub_cancel_left]
   exact ih j hx
section
variable {α : Type} {c : α → List Value} {e : TypeId} {m base : Nat} {w w' : World} {v : Value} {xs : List α}
theorem OwnG.kept {row : Option Nat} (h : OwnG c e m w base v xs) (hg : w.grownBy w' row) (hne : v.ownBlock = none ∨ v.ownBlock ≠ row) : OwnG c e m w' base v xs := World.ownsRow.kept h hg hne
theorem OwnG.alloc (h : OwnG c e m w base v xs) (o : Obj) : OwnG c e m (w.alloc o) base v xs := World.ownsRow.alloc h o
theorem OwnG.drew (h : OwnG c e m w base v xs) : OwnG c e m w.drew base v xs := h
theorem OwnG.drewN (h : OwnG c e m w base v xs) (n : Nat) : OwnG c e m (w.drewN n) base v xs := h
theorem OwnG.lt (h : OwnG c e m w base v xs) : ∀ k, v.ownBlock = some k → base ≤ k ∧ k < w.heap.size := World.ownsRow.lt h
theorem OwnG.nil (w : World) (base : Nat) : OwnG c e m w base (.slice none 0 0) [] := by
 show w.ownsRow base e m (.slice none 0 0) 0 []
 exact World.ownsRow_nil w base e m
theorem OwnG.below (h : OwnG c e m w base v xs) (hb : Below w.heap.size w w') : OwnG c e m w' base v xs := h.kept (grown_of_below (row := none) hb) (by cases v.ownBlock <;> simp)
theorem below_ownG (h : OwnG c e m w base v xs) (hg : w.grownBy w' v.ownBlock) (hb : base ≤ w.heap.size) : Below base w w' :=
 ⟨hg.os, hg.tape, hg.output, by have := hg.size; omega, fun k hk => hg.block k (by omega) (fun e => by have := (h.lt k e.symm).1; omega)⟩
/-- Such a row as a value: nil; or a block that holds it. -/
theorem OwnG.row (h : OwnG c e m w base v xs) : (v = .slice none 0 0 ∧ xs = []) ∨ ∃ g cap, v = .slice (some ⟨g, 0, none⟩) xs.length cap ∧ base ≤ g ∧ g < w.heap.size ∧ xs.length ≤ cap ∧ cap ≤ maxLen ∧ ∀ j u, (xs.flatMap c)[j]? = some u → w.cell? ⟨g, j, none⟩ = some u := by
 obtain ⟨h1, h2⟩ := h
 rcases h2 with ⟨rfl, h0⟩ | ⟨g, cap, cur, rfl, hb, hg, hn, hm, hs, hc⟩
 ·exact Or.inl ⟨rfl, List.eq_nil_of_length_eq_zero h0⟩
 ·refine Or.inr ⟨g, cap, rfl, hb, ?_, hn, hm, fun j u hu => ?_⟩
  ·rcases Nat.lt_or_ge g w.heap.size with hlt | hge
   ·exact hlt
   ·rw [Array.getElem?_eq_none hge] at hg; cases hg
  ·rw [cell_of_row w g j _ _ _ hg]
   rw [← hc, List.getElem?_take] at hu
   split at hu
   ·simpa using hu
   ·cases hu
end
/-- Such a row of one-cell elements, read. -/
theorem OwnG.row1 {α : Type} {c : α → Value} {e : TypeId} {base : Nat} {w : World} {v : Value} {xs : List α} (h : OwnG (fun x => [c x]) e 1 w base v xs) :
  ∃ A cap, v = .slice A xs.length cap ∧ xs.length ≤ cap ∧ cap ≤ maxLen ∧ R1 c w A xs ∧ ((A = none ∧ cap = 0) ∨ ∃ g, A = some ⟨g, 0, none⟩ ∧ base ≤ g ∧ g < w.heap.size) := by
 rcases h.row with ⟨rfl, rfl⟩ | ⟨g, cap, rfl, hb, hg, hn, hm, hc⟩
 ·exact ⟨none, 0, rfl, Nat.le_refl _, Nat.zero_le _, R1.nil _ _ _, Or.inl ⟨rfl, rfl⟩⟩
 ·refine ⟨_, cap, rfl, hn, hm, fun j x hx => ⟨g, 0, rfl, hg, ?_⟩, Or.inr ⟨g, rfl, hb, hg⟩⟩
  have h1 := flat_get (fun x => [c x]) 1 (fun _ => rfl) xs j x hx 0 (by omega)
  rw [show 0 + j = j * 1 + 0 by omega]
  exact hc _ _ h1
section
variable {α : Type} (c : α → List Value) (m bytes : Nat) (z : Value) (t e : TypeId)
/-- append onto a row of the call's own, of a row that lies whole. -/
theorem wpList_append_g {ops : Array Oper} {rest : List Oper} {o : Oper} {a : Act} {w : World} {Q : Exit → Act → World → Prop} (ht : Tryz.prog.underlying t = some (.slice e))
  (hinfo : (Tryz.prog.info? e).map (fun i => (i.zero, i.size, i.bytes)) = some (some z, m, bytes)) (hzs : z.cells.size = m) (hm : 0 < m) (hc : ∀ x, (c x).length = m)
  (hgd : o.guard = none) (s x : Operand) (ho : o.op = .call { callee := .builtin .append, args := #[s, x], argTypes := #[t, t] })
  (base : Nat) (v : Value) (us vs : List α) (hs : a.eval s = v) (hown : OwnG c e m w base v us)
  (ad : Addr) (k cp : Nat) (hx : a.eval x = .slice (some ad) k cp) (hl : vs.length = k) (hnews : ∀ j u, (vs.flatMap c)[j]? = some u → w.cell? (ad.add j) = some u)
  (h63 : us.length + k ≤ maxLen) (hbytes : (us.length + k) * bytes ≤ 140737488355328) (hbase : base ≤ w.heap.size) (h1 : ∀ x ∈ vs, ∀ u ∈ c x, u.oneCell' = true)
  (h : ∀ v' w', OwnG c e m w' base v' (us ++ vs) → w.grownBy w' v.ownBlock → (v'.ownBlock = v.ownBlock ∨ v'.ownBlock = some w.heap.size) → wpList Tryz.prog ops Q rest (a.put o.dst v') w') :
  wpList Tryz.prog ops Q (o :: rest) a w := by
 obtain ⟨i0, hi0, hz0, hz1, hz2⟩ := info_parts hinfo
 refine wpList_append_own_at w hgd s x t ho base e i0 z m bytes ht hi0 hz0 hz1 hz2 hzs hm v us.length (us.flatMap c) hs hown ad k cp (vs.flatMap c) hx (by rw [flat_length c m hc, hl]) hnews
  (fun u hu => by obtain ⟨y, hy0, hy⟩ := List.mem_flatMap.1 hu; exact h1 y hy0 u hy) h63 hbytes hbase fun v' w' h2 h3 h4 h5 => h v' w' ?_ h3 h5
 unfold OwnG
 rw [List.flatMap_append, List.length_append, hl]
 exact h2
/-- The same at a step of a region that draws its order. -/
theorem step_append_g {ops : Array Oper} {o : Oper} {a : Act} {w : World} {K : Act → World → Prop} {Q : Exit → Act → World → Prop} {E : Prop} (ht : Tryz.prog.underlying t = some (.slice e))
  (hinfo : (Tryz.prog.info? e).map (fun i => (i.zero, i.size, i.bytes)) = some (some z, m, bytes)) (hzs : z.cells.size = m) (hm : 0 < m) (hc : ∀ x, (c x).length = m)
  (hgd : o.guard = none) (s x : Operand) (ho : o.op = .call { callee := .builtin .append, args := #[s, x], argTypes := #[t, t] })
  (base : Nat) (v : Value) (us vs : List α) (hs : a.eval s = v) (hown : OwnG c e m w base v us)
  (ad : Addr) (k cp : Nat) (hx : a.eval x = .slice (some ad) k cp) (hl : vs.length = k) (hnews : ∀ j u, (vs.flatMap c)[j]? = some u → w.cell? (ad.add j) = some u)
  (h63 : us.length + k ≤ maxLen) (hbytes : (us.length + k) * bytes ≤ 140737488355328) (hbase : base ≤ w.heap.size) (h1 : ∀ x ∈ vs, ∀ u ∈ c x, u.oneCell' = true)
  (h : ∀ v' w', OwnG c e m w' base v' (us ++ vs) → w.grownBy w' v.ownBlock → (v'.ownBlock = v.ownBlock ∨ v'.ownBlock = some w.heap.size) → K (a.put o.dst v') w') :
  if Region.wanted o (yielded ops a.tmps) = true then Oper.wp Tryz.prog o a w K Q else E := by
 obtain ⟨i0, hi0, hz0, hz1, hz2⟩ := info_parts hinfo
 have hw : Region.wanted o (yielded ops a.tmps) = true := by simp [Region.wanted, hgd]
 rw [if_pos hw]
 obtain ⟨v', w', hr, h2, h3, _, h5⟩ := run_append_own_at (P := Tryz.prog) w base t o.type e i0 z m bytes ht hi0 hz0 hz1 hz2 hzs hm v us.length (us.flatMap c) hown ad k cp (vs.flatMap c) (by rw [flat_length c m hc, hl]) hnews
  (fun u hu => by obtain ⟨y, hy0, hy⟩ := List.mem_flatMap.1 hu; exact h1 y hy0 u hy) h63 hbytes hbase
 unfold Oper.wp execOp
 simp only [ho, resolve, invoke, builtin, Sem.run_bind, Sem.run_pure, Result.andThen_ok, List.map_toArray, List.map_cons, List.map_nil, hs, hx, hr]
 refine h v' w' ?_ h3 h5
 unfold OwnG
 rw [List.flatMap_append, List.length_append, hl]
 exact h2
/-- append of a list that came in: nil, empty or not. -/
theorem wpList_append_came {ops : Array Oper} {rest : List Oper} {o : Oper} {a : Act} {w : World} {Q : Exit → Act → World → Prop} (ht : Tryz.prog.underlying t = some (.slice e))
  (hinfo : (Tryz.prog.info? e).map (fun i => (i.zero, i.size, i.bytes)) = some (some z, m, bytes)) (hzs : z.cells.size = m) (hm : 0 < m) (hc : ∀ x, (c x).length = m)
  (hgd : o.guard = none) (s x : Operand) (ho : o.op = .call { callee := .builtin .append, args := #[s, x], argTypes := #[t, t] })
  (base : Nat) (v : Value) (us vs : List α) (hs : a.eval s = v) (hown : OwnG c e m w base v us)
  (A : Option Addr) (k cp : Nat) (hx : a.eval x = .slice A k cp) (hl : vs.length = k) (hA : A = none → cp = 0) (hnews : ∀ ad, A = some ad → ∀ j u, (vs.flatMap c)[j]? = some u → w.cell? (ad.add j) = some u)
  (hk : k ≤ cp) (h63 : us.length + k ≤ maxLen) (hbytes : (us.length + k) * bytes ≤ 140737488355328) (hbase : base ≤ w.heap.size) (h1 : ∀ x ∈ vs, ∀ u ∈ c x, u.oneCell' = true)
  (h : ∀ v' w', OwnG c e m w' base v' (us ++ vs) → w.grownBy w' v.ownBlock → (v'.ownBlock = v.ownBlock ∨ v'.ownBlock = some w.heap.size) → wpList Tryz.prog ops Q rest (a.put o.dst v') w') :
  wpList Tryz.prog ops Q (o :: rest) a w := by
 cases A with
 | some ad => exact wpList_append_g c m bytes z t e ht hinfo hzs hm hc hgd s x ho base v us vs hs hown ad k cp hx hl (hnews ad rfl) h63 hbytes hbase h1 h
 | none =>
  obtain rfl : cp = 0 := hA rfl
  obtain rfl : k = 0 := by omega
  obtain rfl : vs = [] := List.eq_nil_of_length_eq_zero hl
  obtain ⟨i0, hi0, hz0, hz1, hz2⟩ := info_parts hinfo
  refine wpList_append_own_none hgd s x t ho base e i0 m ht hi0 v us.length (us.flatMap c) hs hown hx ?_
  exact h v w (by rw [List.append_nil]; exact hown) (World.grownBy.refl w _) (Or.inl rfl)
end
/-! ### append of one element, type by type -/
theorem infoU : (Tryz.prog.info? 46).map (fun i => (i.zero, i.size, i.bytes)) = some (some (.int .u64 0), 1, 8) := by kernel_rfl
theorem infoF64 : (Tryz.prog.info? 43).map (fun i => (i.zero, i.size, i.bytes)) = some (some (.float .f64 0), 1, 8) := by kernel_rfl
theorem infoInt : (Tryz.prog.info? 3).map (fun i => (i.zero, i.size, i.bytes)) = some (some (.int .i64 0), 1, 8) := by kernel_rfl
theorem infoLF : (Tryz.prog.info? 22).map (fun i => (i.zero, i.size, i.bytes)) = some (some (.slice none 0 0), 1, 24) := by kernel_rfl
theorem infoLU : (Tryz.prog.info? 27).map (fun i => (i.zero, i.size, i.bytes)) = some (some (.slice none 0 0), 1, 24) := by kernel_rfl
/-- One element, just laid, is appended. -/
theorem news_one {w : World} {g : Nat} {x : Value} (hc : w.cell? ⟨g, 0, none⟩ = some x) {α : Type} {c : α → Value} {y : α} (hy : c y = x) : ∀ j u, (([y] : List α).flatMap fun x => [c x])[j]? = some u → w.cell? ((⟨g, 0, none⟩ : Addr).add j) = some u := fun j u hu => by
 subst hy
 rw [addr_add]
 cases j with
 | zero => cases hu; exact hc
 | succ j => simp at hu
section
variable {α : Type} (c : α → Value) (bytes : Nat) (z : Value) (t e : TypeId)
theorem wpList_app1 {ops : Array Oper} {rest : List Oper} {o : Oper} {a : Act} {w : World} {Q : Exit → Act → World → Prop} (ht : Tryz.prog.underlying t = some (.slice e))
  (hinfo : (Tryz.prog.info? e).map (fun i => (i.zero, i.size, i.bytes)) = some (some z, 1, bytes)) (hzs : z.cells.size = 1)
  (hgd : o.guard = none) (s x : Operand) (ho : o.op = .call { callee := .builtin .append, args := #[s, x], argTypes := #[t, t] })
  (base : Nat) (v : Value) (us : List α) (y : α) (cy : Value) (g : Nat) (hs : a.eval s = v) (hx : a.eval x = .slice (some ⟨g, 0, none⟩) 1 1) (hown : OwnG (fun x => [c x]) e 1 w base v us)
  (hy : c y = cy) (h1 : cy.oneCell' = true) (hc : w.cell? ⟨g, 0, none⟩ = some cy) (hbytes : (us.length + 1) * bytes ≤ 140737488355328) (hl : us.length ≤ 140737488355328) (hbase : base ≤ w.heap.size)
  (h : ∀ v' w', OwnG (fun x => [c x]) e 1 w' base v' (us ++ [y]) → w.grownBy w' v.ownBlock → (v'.ownBlock = v.ownBlock ∨ v'.ownBlock = some w.heap.size) → wpList Tryz.prog ops Q rest (a.put o.dst v') w') :
  wpList Tryz.prog ops Q (o :: rest) a w :=
 wpList_append_g (fun x => [c x]) 1 bytes z t e ht hinfo hzs (by decide) (fun _ => rfl) hgd s x ho base v us [y] hs hown ⟨g, 0, none⟩ 1 1 hx rfl (news_one hc hy) (by unfold maxLen; omega) hbytes hbase (fun x hx u hu => by simp at hx hu; subst hx; subst hu; rw [hy]; exact h1) h
theorem step_app1 {ops : Array Oper} {o : Oper} {a : Act} {w : World} {K : Act → World → Prop} {Q : Exit → Act → World → Prop} {E : Prop} (ht : Tryz.prog.underlying t = some (.slice e))
  (hinfo : (Tryz.prog.info? e).map (fun i => (i.zero, i.size, i.bytes)) = some (some z, 1, bytes)) (hzs : z.cells.size = 1)
  (hgd : o.guard = none) (s x : Operand) (ho : o.op = .call { callee := .builtin .append, args := #[s, x], argTypes := #[t, t] })
  (base : Nat) (v : Value) (us : List α) (y : α) (cy : Value) (g : Nat) (hs : a.eval s = v) (hx : a.eval x = .slice (some ⟨g, 0, none⟩) 1 1) (hown : OwnG (fun x => [c x]) e 1 w base v us)
  (hy : c y = cy) (h1 : cy.oneCell' = true) (hc : w.cell? ⟨g, 0, none⟩ = some cy) (hbytes : (us.length + 1) * bytes ≤ 140737488355328) (hl : us.length ≤ 140737488355328) (hbase : base ≤ w.heap.size)
  (h : ∀ v' w', OwnG (fun x => [c x]) e 1 w' base v' (us ++ [y]) → w.grownBy w' v.ownBlock → (v'.ownBlock = v.ownBlock ∨ v'.ownBlock = some w.heap.size) → K (a.put o.dst v') w') :
  if Region.wanted o (yielded ops a.tmps) = true then Oper.wp Tryz.prog o a w K Q else E :=
 step_append_g (fun x => [c x]) 1 bytes z t e ht hinfo hzs (by decide) (fun _ => rfl) hgd s x ho base v us [y] hs hown ⟨g, 0, none⟩ 1 1 hx rfl (news_one hc hy) (by unfold maxLen; omega) hbytes hbase (fun x hx u hu => by simp at hx hu; subst hx; subst hu; rw [hy]; exact h1) h
end
theorem cell_new0 (w : World) (v : Value) (t : TypeId) : (w.alloc (.cells #[v] t)).cell? ⟨w.heap.size, 0, none⟩ = some v := by
 rw [cell_of_row _ _ _ _ _ _ (heap_alloc_new w _)]; rfl
/-- A row under way: its world, and what was there. -/
def AppR {α : Type} (c : α → List Value) (e : TypeId) (m : Nat) (w wr : World) (v : Value) (xs : List α) : Prop := OwnG c e m wr w.heap.size v xs ∧ Below w.heap.size w wr
section
variable {α : Type} {c : α → List Value} {e : TypeId} {m : Nat} {w wr w2 : World} {v v' : Value} {xs xs' : List α}
theorem AppR.nil (w : World) : AppR c e m w w (.slice none 0 0) [] := ⟨OwnG.nil _ _, Below.refl _ _⟩
theorem AppR.start (hb : Below w.heap.size w wr) : AppR c e m w wr (.slice none 0 0) [] := ⟨OwnG.nil _ _, hb⟩
theorem AppR.alloc (h : AppR c e m w wr v xs) (o : Obj) : AppR c e m w (wr.alloc o) v xs := ⟨h.1.alloc o, h.2.alloc h.2.size _⟩
theorem AppR.drew (h : AppR c e m w wr v xs) : AppR c e m w wr.drew v xs := ⟨h.1, h.2.drew⟩
theorem AppR.on (h : AppR c e m w wr v xs) (hb : Below wr.heap.size wr w2) : AppR c e m w w2 v xs := ⟨h.1.below hb, h.2.trans (hb.mono h.2.size)⟩
theorem AppR.add (h : AppR c e m w wr v xs) (hf : OwnG c e m w2 w.heap.size v' xs') (hg : wr.grownBy w2 v.ownBlock) : AppR c e m w w2 v' xs' := ⟨hf, h.2.trans (below_ownG h.1 hg h.2.size)⟩
theorem AppR.size (h : AppR c e m w wr v xs) : w.heap.size ≤ wr.heap.size := h.2.size
end
theorem take_more {α : Type} (xs : List α) (k : Nat) (x : α) (h : xs[k]? = some x) : xs.take (k + 1) = xs.take k ++ [x] := by rw [List.take_add_one, h]; rfl
section
variable {w w1 : World} {A : Option Addr}
theorem FR.cell {us : List Nat} (h : FR w A us) (hb : Below w.heap.size w w1) (j u : Nat) (hu : us[j]? = some u) : ∃ b o : Nat, A = some ⟨b, o, none⟩ ∧ b < w.heap.size ∧ w1.cell? ⟨b, o + j, none⟩ = some (.float .f64 u) := R1.at h hb j u hu
theorem UR.cell {us : List Nat} (h : UR w A us) (hb : Below w.heap.size w w1) (j u : Nat) (hu : us[j]? = some u) : ∃ b o : Nat, A = some ⟨b, o, none⟩ ∧ b < w.heap.size ∧ w1.cell? ⟨b, o + j, none⟩ = some (.int .u64 (u : Int)) := R1.at h hb j u hu
theorem IR.cell {us : List Int} (h : IR w A us) (hb : Below w.heap.size w w1) (j : Nat) (u : Int) (hu : us[j]? = some u) : ∃ b o : Nat, A = some ⟨b, o, none⟩ ∧ b < w.heap.size ∧ w1.cell? ⟨b, o + j, none⟩ = some (.int .i64 u) := R1.at h hb j u hu
end
/-- What a slice that is known to be long enough reads as, from any place on: its first elements. -/
theorem R1.take {α : Type} {c : α → Value} {w : World} {A : Option Addr} {xs : List α} (h : R1 c w A xs) (n : Nat) : R1 c w A (xs.take n) := fun j x hx => by
 by_cases hj : j < n
 ·rw [List.getElem?_take_of_lt hj] at hx
  exact h j x hx
 ·rw [List.getElem?_eq_none (by rw [List.length_take]; omega)] at hx
  cases hx
theorem R1.news {α : Type} {c : α → Value} {w : World} {A : Option Addr} {xs : List α} (h : R1 c w A xs) : ∀ ad, A = some ad → ∀ j u, (xs.flatMap fun x => [c x])[j]? = some u → w.cell? (ad.add j) = some u := fun ad hA j u hu => by
 have hl := flat_length (fun x => [c x]) 1 (fun _ => rfl) xs
 have hj := (List.getElem?_eq_some_iff.1 hu).1
 obtain ⟨x, hx⟩ : ∃ x, xs[j]? = some x := ⟨xs[j]'(by omega), List.getElem?_eq_getElem _⟩
 have h1 := flat_get (fun x => [c x]) 1 (fun _ => rfl) xs j x hx 0 (by omega)
 rw [show j * 1 + 0 = j by omega, hu] at h1
 obtain ⟨b, o, e, _, hc⟩ := h j x hx
 rw [hA] at e
 injection e with e
 subst e
 rw [addr_add, hc]
 exact h1.symm
/-- A list as a slice holds it. -/
structure LAt {α : Type} (c : α → Value) (w : World) (A : Option Addr) (cap : Nat) (xs : List α) : Prop where
 row : R1 c w A xs
 nil : A = none → cap = 0
 len : xs.length ≤ cap
 most : cap ≤ maxLen
theorem LAt.below {α : Type} {c : α → Value} {w w1 : World} {A : Option Addr} {cap : Nat} {xs : List α} (h : LAt c w A cap xs) (hb : Below w.heap.size w w1) : LAt c w1 A cap xs := ⟨h.row.below (Nat.le_refl _) hb, h.nil, h.len, h.most⟩
theorem OwnG.lat {α : Type} {c : α → Value} {e : TypeId} {base : Nat} {w : World} {v : Value} {xs : List α} (h : OwnG (fun x => [c x]) e 1 w base v xs) : ∃ A cap, v = .slice A xs.length cap ∧ LAt c w A cap xs := by
 obtain ⟨A, cap, h1, h2, h3, h4, h5⟩ := h.row1
 refine ⟨A, cap, h1, h4, fun hA => ?_, h2, h3⟩
 rcases h5 with ⟨_, h⟩ | ⟨g, h, _⟩
 ·exact h
 ·rw [hA] at h; cases h
end Go.Proofs.YtpfbgenefjhcjaaGreatDoor
namespace Go.Proofs.YtpfbgenefjhcjaaGreatDoor
set_option linter.unusedVariables false
set_option linter.unusedSimpArgs false
open Go Go.RowKit
set_option maxRecDepth 100000
theorem read_inf (u : Nat) (he : fexp u = 2047) (hm : fman u = 0) : ∃ s, Ieee.double.read u = .infinity s := by
 have h1 : Ieee.double.signWeight = 9223372036854775808 := by decide
 have h2 : Ieee.double.infRung = 9218868437227405312 := by decide
 have h3 : Ieee.double.binade = 4503599627370496 := by decide
 have hr : u % 9223372036854775808 = 9218868437227405312 := by unfold fexp at he; unfold fman at hm; omega
 refine ⟨u / 9223372036854775808 % 2 == 1, ?_⟩
 unfold Ieee.Format.read
 simp only [h1, h2, h3, hr]
 rw [if_neg (by decide), if_neg (by decide), if_pos trivial]
theorem read_nan (u : Nat) (he : fexp u = 2047) (hm : fman u ≠ 0) : ∃ s f, Ieee.double.read u = .nan s f := by
 have h1 : Ieee.double.signWeight = 9223372036854775808 := by decide
 have h2 : Ieee.double.infRung = 9218868437227405312 := by decide
 have h3 : Ieee.double.binade = 4503599627370496 := by decide
 have hr : 9218868437227405312 < u % 9223372036854775808 := by unfold fexp at he; unfold fman at hm; omega
 refine ⟨u / 9223372036854775808 % 2 == 1, u % 9223372036854775808 - 9218868437227405312, ?_⟩
 unfold Ieee.Format.read
 simp only [h1, h2, h3]
 rw [if_neg (by omega), if_neg (by omega), if_neg (by omega)]
theorem order_nan (u v : Nat) (he : fexp u = 2047) (hm : fman u ≠ 0) : FloatKind.f64.format.order u v = none := by
 obtain ⟨s, f, h⟩ := read_nan u he hm
 show (Ieee.double.read u).order (Ieee.double.read v) = none
 rw [h]
 rfl
theorem order_inf_same (u : Nat) (he : fexp u = 2047) (hm : fman u = 0) : FloatKind.f64.format.order u u = some .eq := by
 obtain ⟨s, h⟩ := read_inf u he hm
 show (Ieee.double.read u).order (Ieee.double.read u) = some .eq
 rw [h]
 show some (compare s.toNat s.toNat) = some .eq
 rw [Nat.compare_eq_eq.2 rfl]
theorem order_inf_max : FloatKind.f64.format.order 9218868437227405312 9218868437227405311 = some .gt := by decide +kernel
theorem absF_inf (u : Nat) (he : fexp u = 2047) (hm : fman u = 0) : absF u = 9218868437227405312 := by unfold fexp at he; unfold fman at hm; unfold absF; omega
theorem abs_le_max (u : Nat) (hu : u < B64) (he : fexp u ≠ 2047) : (FloatKind.f64.format.order (absF u) 9218868437227405311 == some .gt) = false := by
 rw [order_gt_iff _ _ (absF_lt u) (by decide) (by rw [absF_fexp u hu]; exact he) (by decide), decide_eq_false_iff_not]
 rw [absF_fz u hu]
 show ¬ fz MAXB < zabs (fz u)
 rw [fz_most.1]
 have h1 : (fz u).natAbs ≤ MOST := by
  rw [fz_natAbs]
  have h2 := sig_lt u
  have h3 := pwr_le u he
  have h4 := pwr_ge u
  have hx : ∃ n, n = expM ∧ n = 3183 := ⟨expM, rfl, rfl⟩
  obtain ⟨n, hn, hn2⟩ := hx
  unfold MOST
  rw [← hn]
  exact Nat.mul_le_mul (by omega) (Nat.pow_le_pow_right (by decide) (by omega))
 unfold zabs
 omega
theorem andNot_sign (u : Nat) (hu : u < B64) : bits .andNot .u64 (u : Int) 9223372036854775808 = ((absF u : Nat) : Int) := by
 have h := u64_andNot_nat u 9223372036854775808 hu (by decide)
 rw [show (18446744073709551615 - 9223372036854775808 : Nat) = 2 ^ 63 - 1 by rfl, Nat.and_two_pow_sub_one_eq_mod] at h
 exact h
theorem Abs_any (u : Nat) (hu : u < B64) (w : World) : Calls Tryz.prog 76 #[.float .f64 u] w fun e w' => e = .returned (.float .f64 (absF u)) ∧ w' = w := by
 have hrb := run_bits
 have hrf : ∀ n w, Sem.run Tryz.prog (callFunc 121 #[.int .u64 ((n : Nat) : Int)]) w = .ok (.value (.float .f64 n)) w := fun n w => by rw [run_float, Int.toNat_natCast]
 have h1 := andNot_sign u hu
 go_enter Tryz.func76, Tryz.ntmps76
 go_wp2_with fail
 go_ret
 exact ⟨rfl, rfl⟩
theorem IsNaN_no (u : Nat) (h : FloatKind.f64.format.order u u = some .eq) (w : World) : Calls Tryz.prog 141 #[.float .f64 u] w fun e w' => e = .returned (.bool false) ∧ w' = w := by
 go_enter Tryz.func141, Tryz.ntmps141
 go_wp2_with fail
 go_ret
 exact ⟨rfl, rfl⟩
theorem IsNaN_yes (u : Nat) (h : FloatKind.f64.format.order u u = none) (w : World) : Calls Tryz.prog 141 #[.float .f64 u] w fun e w' => e = .returned (.bool true) ∧ w' = w := by
 go_enter Tryz.func141, Tryz.ntmps141
 go_wp2_with fail
 go_ret
 exact ⟨rfl, rfl⟩
theorem IsInf_any (u : Nat) (hu : u < B64) (w : World) : Calls Tryz.prog 142 #[.float .f64 u, .int .i64 0] w fun e w' => e = .returned (.bool (FloatKind.f64.format.order (absF u) 9218868437227405311 == some .gt)) ∧ w' = w := by
 go_enter Tryz.func142, Tryz.ntmps142
 go_wp2_with fail
 refine (Abs_any u hu _).mono ?_
 rintro e w' ⟨rfl, rfl⟩
 go_wp2_with fail
 go_ret
 exact ⟨rfl, rfl⟩
theorem Number_any (u : Nat) (hu : u < B64) (w : World) : Calls Tryz.prog 115 #[.float .f64 u] w fun e w' => e = .returned (.bool (isNum u)) ∧ w' = w := by
 by_cases he : fexp u = 2047
 ·have hn : isNum u = false := by unfold isNum; rw [he]; rfl
  rw [hn]
  clear hn
  by_cases hm : fman u = 0
  ·have h1 := IsNaN_no u (order_inf_same u he hm)
   have h2 := IsInf_any u hu
   rw [absF_inf u he hm, order_inf_max] at h2
   clear he hm
   go_enter Tryz.func115, Tryz.ntmps115
   go_wp2_with fail
   refine (h1 _).mono ?_
   rintro e w' ⟨rfl, rfl⟩
   go_wp2_with fail
   refine (h2 _).mono ?_
   rintro e w' ⟨rfl, rfl⟩
   go_wp2_with fail
   go_ret
   exact ⟨rfl, rfl⟩
  ·have h1 := IsNaN_yes u (order_nan u u he hm)
   clear he hm
   go_enter Tryz.func115, Tryz.ntmps115
   go_wp2_with fail
   refine (h1 _).mono ?_
   rintro e w' ⟨rfl, rfl⟩
   go_wp2_with fail
   go_ret
   exact ⟨rfl, rfl⟩
 ·have hn : isNum u = true := by unfold isNum; rw [bne_iff_ne]; exact he
  rw [hn]
  have h1 := IsNaN_no u (order_same u he)
  have h2 := IsInf_any u hu
  rw [abs_le_max u hu he] at h2
  clear hn he
  go_enter Tryz.func115, Tryz.ntmps115
  go_wp2_with fail
  refine (h1 _).mono ?_
  rintro e w' ⟨rfl, rfl⟩
  go_wp2_with fail
  refine (h2 _).mono ?_
  rintro e w' ⟨rfl, rfl⟩
  go_wp2_with fail
  go_ret
  exact ⟨rfl, rfl⟩
theorem fz_zero : fz 0 = 0 := by
 unfold fz sgn
 rw [show sig 0 = 0 by decide, Nat.zero_mul]
 split <;> rfl
/-- A number held against nought. -/
theorem order_zero (u : Nat) (hu : u < B64) (he : fexp u ≠ 2047) : (neg0 u = true ∧ FloatKind.f64.format.order u 0 = some .lt) ∨ (neg0 u = false ∧ fz u = 0 ∧ FloatKind.f64.format.order u 0 = some .eq) ∨ (neg0 u = false ∧ 0 < fz u ∧ FloatKind.f64.format.order u 0 = some .gt) := by
 have h := order_fz u 0 hu (by decide) he (by decide)
 rw [fz_zero] at h
 unfold neg0
 rcases Int.lt_trichotomy (fz u) 0 with h1 | h1 | h1
 ·exact Or.inl ⟨decide_eq_true h1, by rw [h, Int.compare_eq_lt.2 h1]⟩
 ·exact Or.inr (Or.inl ⟨decide_eq_false (by omega), h1, by rw [h, Int.compare_eq_eq.2 h1]⟩)
 ·exact Or.inr (Or.inr ⟨decide_eq_false (by omega), h1, by rw [h, Int.compare_eq_gt.2 h1]⟩)
end Go.Proofs.YtpfbgenefjhcjaaGreatDoor
namespace Go.Proofs.YtpfbgenefjhcjaaGreatDoor
set_option linter.unusedVariables false
set_option linter.unusedSimpArgs false
open Go Go.RowKit
set_option maxRecDepth 100000
/-- All of a list's numbers are bits. -/
def Small (us : List Nat) : Prop := ∀ u ∈ us, u < B64
theorem Small.at {us : List Nat} (h : Small us) (j u : Nat) (hj : us[j]? = some u) : u < B64 := h u (List.mem_of_getElem? hj)
theorem get_some {α : Type} (us : List α) (k : Nat) (h : k < us.length) : ∃ u, us[k]? = some u := ⟨us[k], List.getElem?_eq_getElem h⟩
theorem all_take {α : Type} (p : α → Bool) (us : List α) (k : Nat) (u : α) (hu : us[k]? = some u) (h : (us.take k).all p = true) (hp : p u = true) : (us.take (k + 1)).all p = true := by
 rw [List.take_add_one, hu, List.all_append, h]
 simp [hp]
theorem all_none {α : Type} (p : α → Bool) (us : List α) (k : Nat) (u : α) (hu : us[k]? = some u) (hp : p u = false) : us.all p = false := by
 rw [List.all_eq_false]
 exact ⟨u, List.mem_of_getElem? hu, by simp [hp]⟩
set_option maxHeartbeats 1000000 in
theorem row_any (w : World) (A : Option Addr) (n cap : Nat) (us : List Nat) (N : Int) (h : FR w A us) (hs : Small us) (hl : us.length = n) (hm : n ≤ maxLen) :
  Calls Tryz.prog 71 #[.slice A n cap, .int .i64 N] w fun e w' => e = .returned (.bool (rowD us N)) ∧ w' = w := by
 unfold maxLen at hm
 have HL := Lib.hid hl
 have hn : n ≤ us.length := by omega
 clear hl
 go_enter Tryz.func71, Tryz.ntmps71
 go_wp2_with fail
 go_loop [9] (fun i => ∃ k : Nat, k ≤ n ∧ i = .int .i64 (k : Nat) ∧ (us.take k).all isNum = true) (fun i => n - (intOf i).toNat)
 case atStart => exact ⟨0, Nat.zero_le _, rfl, rfl⟩
 case round =>
  obtain ⟨k, hk, rfl, hall⟩ := hrel
  have HA := Lib.hid hall
  clear hall
  by_cases hlt : k < n
  ·have hlt' : (k : Int) < (n : Int) := by omega
   obtain ⟨u, hu⟩ := get_some us k (by omega)
   obtain ⟨b, o, rfl, hb, hc⟩ := h.cell (Below.refl _ _) k u hu
   have hN := Number_any u (hs.at k u hu)
   have HU := Lib.hid hu
   clear hu
   by_cases hnu : isNum u = true
   ·rw [hnu] at hN
    have HN := Lib.hid hnu
    clear hnu
    go_wp2_with fail
    refine (hN _).mono ?_
    rintro e w' ⟨rfl, rfl⟩
    go_wp2_with fail
    go_round
    case rel => exact ⟨k + 1, by omega, by go_num, all_take _ _ _ _ HU.out HA.out HN.out⟩
    case measure => simp [intOf]; omega
   ·rw [Bool.not_eq_true] at hnu
    rw [hnu] at hN
    have hz : rowD us N = false := by unfold rowD; rw [all_none _ _ _ _ HU.out hnu]; rfl
    have HZ := Lib.hid hz
    clear hnu hz
    go_wp2_with fail
    refine (hN _).mono ?_
    rintro e w' ⟨rfl, rfl⟩
    go_wp2_with fail
    go_ret
    exact ⟨by rw [HZ.out]; rfl, rfl⟩
  ·obtain rfl : k = n := by omega
   have hlt' : decide ((k : Int) < (k : Nat)) = false := by simp
   have hz : rowD us N = ((k : Int) == N) := by
    have h1 := HA.out
    rw [List.take_of_length_le (by have := HL.out; omega)] at h1
    unfold rowD
    rw [h1, HL.out]
    rfl
   have HZ := Lib.hid hz
   clear hz
   go_wp2_with fail
   go_ret
   exact ⟨by rw [HZ.out]; rfl, rfl⟩
/-- How many cells of 8 bytes a list that came in may have. -/
def MAXF : Nat := 17592186043904
set_option maxHeartbeats 1000000 in
theorem Bits10_any (w : World) (A : Option Addr) (n cap : Nat) (us : List Nat) (h : FR w A us) (hl : us.length = n) (hm : n ≤ MAXF) :
  Calls Tryz.prog 27 #[.slice A n cap] w fun e w' => ∃ v, e = .returned v ∧ OwnG (fun x => [cU x]) 46 1 w' w.heap.size v us ∧ Below w.heap.size w w' := by
 unfold MAXF at hm
 have HL := Lib.hid hl
 have hn : n ≤ us.length := by omega
 clear hl
 go_enter Tryz.func27, Tryz.ntmps27
 go_wp2_with fail
 go_loopw [3, 4] (fun v i wr => ∃ k : Nat, k ≤ n ∧ i = .int .i64 (k : Nat) ∧ AppR (fun x => [cU x]) 46 1 w wr v (us.take k)) (fun _ i _ => n - (intOf i).toNat)
 case atStart => exact ⟨0, Nat.zero_le _, rfl, AppR.nil w⟩
 case round =>
  obtain ⟨k, hk, rfl, hr⟩ := hrel
  by_cases hlt : k < n
  ·have hlt' : (k : Int) < (n : Int) := by omega
   obtain ⟨u, hu⟩ := get_some us k (by omega)
   obtain ⟨b, o, rfl, hb, hc⟩ := h.cell hr.2 k u hu
   have HV := Lib.hid (take_more us k u hu)
   have hrA := hr.alloc (.cells #[.int .u64 (u : Int)] 46)
   have hcA := cell_new0 wr (.int .u64 (u : Int)) 46
   have hlen : (us.take k).length ≤ k := List.length_take_le _ _
   have hsz := hrA.size
   have hbt := bits_nat u
   clear hu
   go_wp2_with fail
   refine (hbt _).mono ?_
   rintro e w' ⟨rfl, rfl⟩
   go_wp2_with (at_builtin; refine wpList_app1 cU 8 (.int .u64 0) 27 46 Tryz.underlying27 infoU rfl rfl (.tmp 11) (.tmp 17) rfl w.heap.size _ (us.take k) u (.int .u64 (u : Int)) w'.heap.size rfl rfl hrA.1 rfl rfl hcA (by omega) (by omega) hsz ?_; intro v2 w2 ho2 hg2 _; have hr2 := hrA.add ho2 hg2; clear ho2 hg2 hrA hcA)
   go_roundw
   case rel => exact ⟨k + 1, by omega, by go_num, by rw [HV.out]; exact hr2⟩
   case measure => simp [intOf]; omega
  ·obtain rfl : k = n := by omega
   have hlt' : decide ((k : Int) < (k : Nat)) = false := by simp
   have HR : Hid (AppR (fun x => [cU x]) 46 1 w wr u3 us) := Lib.hid (by
    have h1 := hr
    rw [List.take_of_length_le (by have := HL.out; omega)] at h1
    exact h1)
   clear hr
   go_wp2_with fail
   go_ret
   exact ⟨_, rfl, HR.out.1, HR.out.2⟩
set_option maxHeartbeats 1000000 in
theorem same10_yes (w : World) (A B : Option Addr) (n cap cap' : Nat) (us : List Nat) (h : FR w A us) (h' : UR w B us) (hl : us.length = n) (hm : n ≤ MAXF) :
  Calls Tryz.prog 93 #[.slice A n cap, .slice B n cap'] w fun e w' => e = .returned (.bool true) ∧ Below w.heap.size w w' := by
 unfold MAXF at hm
 have hn : n ≤ us.length := by omega
 clear hl
 go_enter Tryz.func93, Tryz.ntmps93
 go_wp2_with fail
 go_loopw [5] (fun i wr => ∃ k : Nat, k ≤ n ∧ i = .int .i64 (k : Nat) ∧ Below w.heap.size w wr) (fun i _ => n - (intOf i).toNat)
 case atStart => exact ⟨0, Nat.zero_le _, rfl, Below.refl _ _⟩
 case round =>
  obtain ⟨k, hk, rfl, hr⟩ := hrel
  by_cases hlt : k < n
  ·have hlt' : (k : Int) < (n : Int) := by omega
   obtain ⟨u, hu⟩ := get_some us k (by omega)
   obtain ⟨b, o, rfl, hb, hc⟩ := h.cell hr k u hu
   obtain ⟨b', o', rfl, hb', hc'⟩ := h'.cell hr k u hu
   have hbt := bits_nat u
   clear hu
   go_wp2_with fail
   go_quiet ((go_at_call 30; exact Calls.quiet_of_same (hbt _)))
   go_wp2_with fail
   go_roundw
   case rel => exact ⟨k + 1, by omega, by go_num, below_drewN' hr _⟩
   case measure => simp [intOf]; omega
  ·obtain rfl : k = n := by omega
   have hlt' : decide ((k : Int) < (k : Nat)) = false := by simp
   go_wp2_with fail
   go_ret
   exact ⟨rfl, hr⟩
end Go.Proofs.YtpfbgenefjhcjaaGreatDoor
namespace Go.Proofs.YtpfbgenefjhcjaaGreatDoor
set_option linter.unusedVariables false
set_option linter.unusedSimpArgs false
open Go Go.RowKit
set_option maxRecDepth 100000
/-- 901.0, 902.0 .. -/
def mk (i : Nat) : Nat := 4651136495631990784 + i * 8796093022208
def marks : List Nat := [mk 0, mk 1, mk 2, mk 3, mk 4]
/-- A list that is cut out of a longer one, with marks behind it. -/
def WideAt (w : World) (base : Nat) (v : Value) (us : List Nat) : Prop := ∃ g cap : Nat, v = .slice (some ⟨g, 0, none⟩) us.length cap ∧ base ≤ g ∧ us.length + 5 ≤ cap ∧ cap ≤ maxLen ∧ OwnG (fun x => [cF x]) 43 1 w base (.slice (some ⟨g, 0, none⟩) (us.length + 5) cap) (us ++ marks)
def TellsWide (w : World) (us : List Nat) (e : Ending) (w' : World) : Prop := ∃ v, e = .returned v ∧ WideAt w' w.heap.size v us ∧ Below w.heap.size w w'
set_option maxHeartbeats 2000000 in
theorem wide_any (w : World) (A : Option Addr) (n cap : Nat) (us : List Nat) (h : FR w A us) (hl : us.length = n) (hm : n ≤ MAXF) (hA : A = none → cap = 0) (hcap : n ≤ cap) :
  Calls Tryz.prog 23 #[.slice A n cap] w fun e w' => TellsWide w us e w' := by
 unfold MAXF at hm
 have HL := Lib.hid hl
 have HN := h.news
 have f0 : floatOfInt FloatKind.f64 901 = 4651136495631990784 := by decide +kernel
 have f1 : floatOfInt FloatKind.f64 902 = 4651145291725012992 := by decide +kernel
 have f2 : floatOfInt FloatKind.f64 903 = 4651154087818035200 := by decide +kernel
 have f3 : floatOfInt FloatKind.f64 904 = 4651162883911057408 := by decide +kernel
 have f4 : floatOfInt FloatKind.f64 905 = 4651171680004079616 := by decide +kernel
 have h0 : OwnG (fun x => [cF x]) 43 1 w w.heap.size (.slice none 0 0) [] := OwnG.nil _ _
 clear hl
 go_enter Tryz.func23, Tryz.ntmps23
 go_wp2_with (at_builtin; refine wpList_append_came (fun x => [cF x]) 1 8 (.float .f64 0) 22 43 Tryz.underlying22 infoF64 rfl (by decide) (fun _ => rfl) rfl (.tmp 5) (.tmp 6) rfl w.heap.size _ [] us rfl h0 A n cap rfl HL.out hA HN hcap (by unfold maxLen; simp; omega) (by simp; omega) (Nat.le_refl _) (fun x _ u hu => by simp at hu; subst hu; rfl) ?_; intro v1 w1 ho1 hg1 _; have hr1 : AppR (fun x => [cF x]) 43 1 w w1 v1 (us ++ marks.take 0) := ⟨by simpa using ho1, below_ownG h0 hg1 (Nat.le_refl _)⟩; clear ho1 hg1 HN h0 hA)
 go_loopw [3, 4] (fun v i wr => ∃ k : Nat, k ≤ 5 ∧ i = .int .i64 (k : Nat) ∧ AppR (fun x => [cF x]) 43 1 w wr v (us ++ marks.take k)) (fun _ i _ => 5 - (intOf i).toNat)
 case atStart => exact ⟨0, by omega, rfl, hr1⟩
 case round =>
  obtain ⟨k, hk, rfl, hr⟩ := hrel
  clear hr1
  by_cases hlt : k < 5
  ·have hlen : (us ++ marks.take k).length ≤ n + 5 := by rw [List.length_append, HL.out, List.length_take]; omega
   have hz := hr.size
   rcases (by omega : k = 0 ∨ k = 1 ∨ k = 2 ∨ k = 3 ∨ k = 4) with rfl | rfl | rfl | rfl | rfl
   ·clear hk hlt
    go_wp2_with (at_builtin; refine wpList_app1 cF 8 (.float .f64 0) 22 43 Tryz.underlying22 infoF64 rfl rfl (.tmp 12) (.tmp 16) rfl w.heap.size _ _ (mk 0) (.float .f64 4651136495631990784) wr.heap.size rfl rfl (hr.alloc (.cells #[.float .f64 4651136495631990784] 43)).1 rfl rfl (cell_new0 wr (.float .f64 4651136495631990784) 43) (by omega) (by omega) (by simp; omega) ?_; intro v2 w2 ho2 hg2 _; have hr2 := (hr.alloc (.cells #[.float .f64 4651136495631990784] 43)).add ho2 hg2; clear ho2 hg2 hr)
    go_roundw
    case rel => exact ⟨1, by omega, rfl, by rw [List.append_assoc] at hr2; exact hr2⟩
    case measure => simp [intOf]
   ·clear hk hlt
    go_wp2_with (at_builtin; refine wpList_app1 cF 8 (.float .f64 0) 22 43 Tryz.underlying22 infoF64 rfl rfl (.tmp 12) (.tmp 16) rfl w.heap.size _ _ (mk 1) (.float .f64 4651145291725012992) wr.heap.size rfl rfl (hr.alloc (.cells #[.float .f64 4651145291725012992] 43)).1 rfl rfl (cell_new0 wr (.float .f64 4651145291725012992) 43) (by omega) (by omega) (by simp; omega) ?_; intro v2 w2 ho2 hg2 _; have hr2 := (hr.alloc (.cells #[.float .f64 4651145291725012992] 43)).add ho2 hg2; clear ho2 hg2 hr)
    go_roundw
    case rel => exact ⟨2, by omega, rfl, by rw [List.append_assoc] at hr2; exact hr2⟩
    case measure => simp [intOf]
   ·clear hk hlt
    go_wp2_with (at_builtin; refine wpList_app1 cF 8 (.float .f64 0) 22 43 Tryz.underlying22 infoF64 rfl rfl (.tmp 12) (.tmp 16) rfl w.heap.size _ _ (mk 2) (.float .f64 4651154087818035200) wr.heap.size rfl rfl (hr.alloc (.cells #[.float .f64 4651154087818035200] 43)).1 rfl rfl (cell_new0 wr (.float .f64 4651154087818035200) 43) (by omega) (by omega) (by simp; omega) ?_; intro v2 w2 ho2 hg2 _; have hr2 := (hr.alloc (.cells #[.float .f64 4651154087818035200] 43)).add ho2 hg2; clear ho2 hg2 hr)
    go_roundw
    case rel => exact ⟨3, by omega, rfl, by rw [List.append_assoc] at hr2; exact hr2⟩
    case measure => simp [intOf]
   ·clear hk hlt
    go_wp2_with (at_builtin; refine wpList_app1 cF 8 (.float .f64 0) 22 43 Tryz.underlying22 infoF64 rfl rfl (.tmp 12) (.tmp 16) rfl w.heap.size _ _ (mk 3) (.float .f64 4651162883911057408) wr.heap.size rfl rfl (hr.alloc (.cells #[.float .f64 4651162883911057408] 43)).1 rfl rfl (cell_new0 wr (.float .f64 4651162883911057408) 43) (by omega) (by omega) (by simp; omega) ?_; intro v2 w2 ho2 hg2 _; have hr2 := (hr.alloc (.cells #[.float .f64 4651162883911057408] 43)).add ho2 hg2; clear ho2 hg2 hr)
    go_roundw
    case rel => exact ⟨4, by omega, rfl, by rw [List.append_assoc] at hr2; exact hr2⟩
    case measure => simp [intOf]
   ·clear hk hlt
    go_wp2_with (at_builtin; refine wpList_app1 cF 8 (.float .f64 0) 22 43 Tryz.underlying22 infoF64 rfl rfl (.tmp 12) (.tmp 16) rfl w.heap.size _ _ (mk 4) (.float .f64 4651171680004079616) wr.heap.size rfl rfl (hr.alloc (.cells #[.float .f64 4651171680004079616] 43)).1 rfl rfl (cell_new0 wr (.float .f64 4651171680004079616) 43) (by omega) (by omega) (by simp; omega) ?_; intro v2 w2 ho2 hg2 _; have hr2 := (hr.alloc (.cells #[.float .f64 4651171680004079616] 43)).add ho2 hg2; clear ho2 hg2 hr)
    go_roundw
    case rel => exact ⟨5, by omega, rfl, by rw [List.append_assoc] at hr2; exact hr2⟩
    case measure => simp [intOf]
  ·obtain rfl : k = 5 := by omega
   have hlt' : decide ((5 : Nat) < 5) = false := by simp
   rcases hr.1.row with ⟨_, h0⟩ | ⟨g, cp, rfl, hb, hg, hn, hm2, hc⟩
   ·exact absurd (congrArg List.length h0) (by simp [marks])
   ·have hl2 : (us ++ marks.take 5).length = n + 5 := by rw [List.length_append, HL.out]; rfl
    rw [hl2] at hn hr ⊢
    have HR := Lib.hid hr
    have h1 : (n : Int) ≤ (cp : Int) := by omega
    have h2 : (0 : Int) ≤ (n : Int) := by omega
    clear hc hr h hl2 f0 f1 f2 f3 f4
    go_wp2_with fail
    go_ret
    refine ⟨_, rfl, ⟨g, cp, by rw [HL.out]; rfl, hb, by rw [HL.out]; exact hn, hm2, ?_⟩, HR.out.2⟩
    rw [HL.out]
    exact HR.out.1
theorem WideAt.mark {w : World} {base : Nat} {us : List Nat} {g cap : Nat} (h : OwnG (fun x => [cF x]) 43 1 w base (.slice (some ⟨g, 0, none⟩) (us.length + 5) cap) (us ++ marks)) (i : Nat) (hi : i < 5) : w.cell? ⟨g, us.length + i, none⟩ = some (.float .f64 (mk i)) := by
 rcases h.row with ⟨h1, _⟩ | ⟨g', cap', he, hb, hg, hn, hm, hc⟩
 ·simp at h1
 ·injection he with h1 _ _
  injection h1 with h1
  injection h1 with h1 _ _
  subst h1
  have h2 : (us ++ marks)[us.length + i]? = some (mk i) := by
   rw [List.getElem?_append_right (by omega), Nat.add_sub_cancel_left]
   rcases (by omega : i = 0 ∨ i = 1 ∨ i = 2 ∨ i = 3 ∨ i = 4) with rfl | rfl | rfl | rfl | rfl <;> rfl
  have h3 := flat_get (fun x => [cF x]) 1 (fun _ => rfl) (us ++ marks) (us.length + i) _ h2 0 (by omega)
  rw [show (us.length + i) * 1 + 0 = us.length + i by omega] at h3
  exact hc _ _ h3
theorem WideAt.below {w w1 : World} {base : Nat} {v : Value} {us : List Nat} (h : WideAt w base v us) (hb : Below w.heap.size w w1) : WideAt w1 base v us := by
 obtain ⟨g, cap, h1, h2, h3, h4, h5⟩ := h
 exact ⟨g, cap, h1, h2, h3, h4, h5.below hb⟩
/-- Read as a list that came in. -/
theorem WideAt.list {w : World} {base : Nat} {v : Value} {us : List Nat} (h : WideAt w base v us) : ∃ A cap, v = .slice A us.length cap ∧ us.length ≤ cap ∧ cap ≤ maxLen ∧ (A = none → cap = 0) ∧ FR w A us := by
 obtain ⟨g, cap, h1, h2, h3, h4, h5⟩ := h
 refine ⟨_, cap, h1, by omega, h4, (fun h => by cases h), ?_⟩
 rcases h5.row with ⟨h1, _⟩ | ⟨g', cap', he, hb, hg, hn, hm, hc⟩
 ·simp at h1
 ·injection he with h1 _ _
  injection h1 with h1
  injection h1 with h1 _ _
  subst h1
  intro j u hu
  refine ⟨g, 0, rfl, hg, ?_⟩
  have hj := (List.getElem?_eq_some_iff.1 hu).1
  have h2 : (us ++ marks)[j]? = some u := by rw [List.getElem?_append_left hj]; exact hu
  have h3 := flat_get (fun x => [cF x]) 1 (fun _ => rfl) (us ++ marks) j _ h2 0 (by omega)
  rw [show 0 + j = j * 1 + 0 by omega]
  exact hc _ _ h3
set_option maxHeartbeats 2000000 in
theorem kept_any (w : World) (base : Nat) (v : Value) (us : List Nat) (n : Nat) (h : WideAt w base v us) (hl : us.length = n) (hm : n ≤ MAXF) :
  Calls Tryz.prog 31 #[v] w fun e w' => e = .returned (.bool true) ∧ w' = w := by
 unfold MAXF at hm
 obtain ⟨g, cp, rfl, hb, hcp, hcm, ho⟩ := h
 have c0 := WideAt.mark ho 0 (by decide)
 have c1 := WideAt.mark ho 1 (by decide)
 have c2 := WideAt.mark ho 2 (by decide)
 have c3 := WideAt.mark ho 3 (by decide)
 have c4 := WideAt.mark ho 4 (by decide)
 rw [hl] at c0 c1 c2 c3 c4 hcp ⊢
 have d0 : w.cell? ⟨g, n, none⟩ = some (.float .f64 4651136495631990784) := c0
 have d1 : w.cell? ⟨g, n + 1, none⟩ = some (.float .f64 4651145291725012992) := c1
 have d2 : w.cell? ⟨g, n + 2, none⟩ = some (.float .f64 4651154087818035200) := c2
 have d3 : w.cell? ⟨g, n + 3, none⟩ = some (.float .f64 4651162883911057408) := c3
 have d4 : w.cell? ⟨g, n + 4, none⟩ = some (.float .f64 4651171680004079616) := c4
 clear c0 c1 c2 c3 c4 ho hl
 have f0 : floatOfInt FloatKind.f64 901 = 4651136495631990784 := by decide +kernel
 have f1 : floatOfInt FloatKind.f64 902 = 4651145291725012992 := by decide +kernel
 have f2 : floatOfInt FloatKind.f64 903 = 4651154087818035200 := by decide +kernel
 have f3 : floatOfInt FloatKind.f64 904 = 4651162883911057408 := by decide +kernel
 have f4 : floatOfInt FloatKind.f64 905 = 4651171680004079616 := by decide +kernel
 have g0 : FloatKind.f64.format.order 4651136495631990784 4651136495631990784 = some .eq := by decide +kernel
 have g1 : FloatKind.f64.format.order 4651145291725012992 4651145291725012992 = some .eq := by decide +kernel
 have g2 : FloatKind.f64.format.order 4651154087818035200 4651154087818035200 = some .eq := by decide +kernel
 have g3 : FloatKind.f64.format.order 4651162883911057408 4651162883911057408 = some .eq := by decide +kernel
 have g4 : FloatKind.f64.format.order 4651171680004079616 4651171680004079616 = some .eq := by decide +kernel
 have h1 : (n : Int) + 5 ≤ (cp : Int) := by omega
 have h2 : (0 : Int) ≤ (n : Int) + 5 := by omega
 go_enter Tryz.func31, Tryz.ntmps31
 go_wp2_with fail
 go_loop [4] (fun i => ∃ k : Nat, k ≤ 5 ∧ i = .int .i64 (k : Nat)) (fun i => 5 - (intOf i).toNat)
 case atStart => exact ⟨0, by omega, rfl⟩
 case round =>
  obtain ⟨k, hk, rfl⟩ := hrel
  by_cases hlt : k < 5
  ·rcases (by omega : k = 0 ∨ k = 1 ∨ k = 2 ∨ k = 3 ∨ k = 4) with rfl | rfl | rfl | rfl | rfl
   ·clear hk hlt
    go_wp2_with fail
    go_round
    case rel => exact ⟨1, by omega, rfl⟩
    case measure => simp [intOf]
   ·clear hk hlt
    go_wp2_with fail
    go_round
    case rel => exact ⟨2, by omega, rfl⟩
    case measure => simp [intOf]
   ·clear hk hlt
    go_wp2_with fail
    go_round
    case rel => exact ⟨3, by omega, rfl⟩
    case measure => simp [intOf]
   ·clear hk hlt
    go_wp2_with fail
    go_round
    case rel => exact ⟨4, by omega, rfl⟩
    case measure => simp [intOf]
   ·clear hk hlt
    go_wp2_with fail
    go_round
    case rel => exact ⟨5, by omega, rfl⟩
    case measure => simp [intOf]
  ·obtain rfl : k = 5 := by omega
   have hlt' : decide ((5 : Nat) < 5) = false := by simp
   go_wp2_with fail
   go_ret
   exact ⟨rfl, rfl⟩
end Go.Proofs.YtpfbgenefjhcjaaGreatDoor
namespace Go.Proofs.YtpfbgenefjhcjaaGreatDoor
set_option linter.unusedVariables false
set_option linter.unusedSimpArgs false
open Go Go.RowKit
set_option maxRecDepth 100000
/-- How many lists a list that came in may have. -/
def MAXG : Nat := 5864062014634
/-- A zonotope's lists as they lie in memory (cc: how a number lies). -/
structure ZC (cc : Nat → Value) (w : World) (z : ZD) (A B C D : Option Addr) (kA kB kC kD : Nat) : Prop where
 c : R1 cc w A z.c
 ids : IR w B z.ids
 g : RR cc w C z.g
 r : R1 cc w D z.r
 cA : z.c.length ≤ kA ∧ kA ≤ maxLen ∧ (A = none → kA = 0)
 cB : z.ids.length ≤ kB ∧ kB ≤ maxLen ∧ (B = none → kB = 0)
 cC : z.g.length ≤ kC ∧ kC ≤ maxLen ∧ (C = none → kC = 0)
 cD : z.r.length ≤ kD ∧ kD ≤ maxLen ∧ (D = none → kD = 0)
abbrev ZCells := ZC cF
def zval (z : ZD) (A B C D : Option Addr) (kA kB kC kD : Nat) : Value := .agg #[.int .i64 z.n, .slice A z.c.length kA, .slice B z.ids.length kB, .slice C z.g.length kC, .slice D z.r.length kD, .bool z.bad]
theorem ZC.below {cc : Nat → Value} {w w1 : World} {z : ZD} {A B C D : Option Addr} {kA kB kC kD : Nat} (h : ZC cc w z A B C D kA kB kC kD) (hb : Below w.heap.size w w1) : ZC cc w1 z A B C D kA kB kC kD :=
 ⟨h.c.below (Nat.le_refl _) hb, h.ids.below (Nat.le_refl _) hb, h.g.below hb, h.r.below (Nat.le_refl _) hb, h.cA, h.cB, h.cC, h.cD⟩
def ZV (cc : Nat → Value) (w : World) (v : Value) (z : ZD) : Prop := ∃ A B C D kA kB kC kD, v = zval z A B C D kA kB kC kD ∧ ZC cc w z A B C D kA kB kC kD
theorem ZV.below {cc : Nat → Value} {w w1 : World} {v : Value} {z : ZD} (h : ZV cc w v z) (hb : Below w.heap.size w w1) : ZV cc w1 v z := by
 obtain ⟨A, B, C, D, kA, kB, kC, kD, h1, h2⟩ := h
 exact ⟨A, B, C, D, kA, kB, kC, kD, h1, h2.below hb⟩
/-- The program's own; and by its bits. -/
abbrev ZIs := ZV cF
abbrev UIs := ZV cU
/-- Its numbers are bits, and its lists have room. -/
structure ZOk (z : ZD) : Prop where
 c : Small z.c
 r : Small z.r
 g : ∀ g ∈ z.g, Small g ∧ g.length ≤ MAXF
 lc : z.c.length ≤ MAXF
 lr : z.r.length ≤ MAXF
 li : z.ids.length ≤ MAXF
 lg : z.g.length ≤ MAXG
 n1 : -9223372036854775808 ≤ z.n
 n2 : z.n ≤ 9223372036854775807
 ids : ∀ i ∈ z.ids, -9223372036854775808 ≤ i ∧ i ≤ 9223372036854775807
set_option maxHeartbeats 2000000 in
theorem good_head (w : World) (A B C D : Option Addr) (kA kB kC kD : Nat) (z : ZD) (h : ZCells w z A B C D kA kB kC kD) (hk : ZOk z) (hh : headD z = false) :
  Calls Tryz.prog 61 #[zval z A B C D kA kB kC kD] w fun e w' => e = .returned (.bool false) ∧ Below w.heap.size w w' := by
 obtain ⟨n, c, ids, g, r, bad⟩ := z
 have hb1 := below_alloc w (.cells #[.int .i64 n, .slice A c.length kA, .slice B ids.length kB, .slice C g.length kC, .slice D r.length kD, .bool bad] 26)
 have h1 := fun N w1 (hb : Below w.heap.size w w1) => row_any w1 A c.length kA c N (h.c.below (Nat.le_refl _) hb) hk.c rfl (by have := hk.lc; unfold MAXF at this; unfold maxLen; show c.length ≤ _; simp at this; omega)
 have h2 := fun N w1 (hb : Below w.heap.size w w1) => row_any w1 D r.length kD r N (h.r.below (Nat.le_refl _) hb) hk.r rfl (by have := hk.lr; unfold MAXF at this; unfold maxLen; show r.length ≤ _; simp at this; omega)
 have h3 := h1 n _ hb1
 have h4 := h2 n _ hb1
 have HB := Lib.hid hb1
 clear h1 h2 h hk hb1
 unfold headD at hh
 show Calls Tryz.prog 61 #[.agg #[.int .i64 n, .slice A c.length kA, .slice B ids.length kB, .slice C g.length kC, .slice D r.length kD, .bool bad]] w _
 cases bad with
 | true =>
  clear hh
  go_enter Tryz.func61, Tryz.ntmps61
  go_wp2_with fail
  go_ret
  exact ⟨rfl, HB.out⟩
 | false =>
  by_cases n1 : n < 1
  ·clear hh
   go_enter Tryz.func61, Tryz.ntmps61
   go_wp2_with fail
   go_ret
   exact ⟨rfl, HB.out⟩
  ·have n1' : decide (n < 1) = false := by simp; omega
   by_cases n2 : 256 < n
   ·clear hh
    go_enter Tryz.func61, Tryz.ntmps61
    go_wp2_with fail
    go_ret
    exact ⟨rfl, HB.out⟩
   ·have n2' : decide (256 < n) = false := by simp; omega
    by_cases e1 : rowD c n = true
    ·rw [e1] at h3
     by_cases e2 : rowD r n = true
     ·rw [e2] at h4
      have e3 : (ids.length == g.length) = false := by
       simp only [e1, e2, Bool.not_false, Bool.true_and, Bool.and_true] at hh
       rw [decide_eq_true (show (1 : Int) ≤ n by omega), decide_eq_true (show n ≤ (256 : Int) by omega)] at hh
       simpa using hh
      have e3' : ((ids.length : Int) == (g.length : Int)) = false := by rw [beq_eq_false_iff_ne] at *; omega
      clear hh e1 e2 e3 n1 n2
      go_enter Tryz.func61, Tryz.ntmps61
      go_wp2_with fail
      refine h3.mono ?_
      rintro e w' ⟨rfl, rfl⟩
      go_wp2_with fail
      refine h4.mono ?_
      rintro e w' ⟨rfl, rfl⟩
      go_wp2_with fail
      go_ret
      exact ⟨rfl, HB.out⟩
     ·rw [Bool.not_eq_true] at e2
      rw [e2] at h4
      clear hh e1 e2 n1 n2
      go_enter Tryz.func61, Tryz.ntmps61
      go_wp2_with fail
      refine h3.mono ?_
      rintro e w' ⟨rfl, rfl⟩
      go_wp2_with fail
      refine h4.mono ?_
      rintro e w' ⟨rfl, rfl⟩
      go_wp2_with fail
      go_ret
      exact ⟨rfl, HB.out⟩
    ·rw [Bool.not_eq_true] at e1
     rw [e1] at h3
     clear hh e1 n1 n2
     go_enter Tryz.func61, Tryz.ntmps61
     go_wp2_with fail
     refine h3.mono ?_
     rintro e w' ⟨rfl, rfl⟩
     go_wp2_with fail
     go_ret
     exact ⟨rfl, HB.out⟩
theorem headD_parts {z : ZD} (h : headD z = true) : z.bad = false ∧ 1 ≤ z.n ∧ z.n ≤ 256 ∧ rowD z.c z.n = true ∧ rowD z.r z.n = true ∧ z.ids.length = z.g.length := by
 unfold headD at h
 simp only [Bool.and_eq_true, Bool.not_eq_true', decide_eq_true_eq, beq_iff_eq] at h
 obtain ⟨⟨⟨⟨⟨h1, h2⟩, h3⟩, h4⟩, h5⟩, h6⟩ := h
 exact ⟨h1, h2, h3, h4, h5, h6⟩
theorem goodD_neg {z : ZD} (k u : Nat) (hu : z.r[k]? = some u) (h : neg0 u = true) : goodD z = false := by
 unfold goodD
 rw [all_none (fun u => !neg0 u) z.r k u hu (by simp [h])]
 simp
theorem range_none (p : Nat → Bool) (n k : Nat) (hk : k < n) (h : p k = false) : (List.range n).all p = false := by
 rw [List.all_eq_false]
 exact ⟨k, List.mem_range.2 hk, by simp [h]⟩
theorem goodD_col {z : ZD} (k : Nat) (hk : k < z.ids.length) (h : colOk z k = false) : goodD z = false := by
 unfold goodD
 rw [range_none _ _ k hk h]
 simp
theorem goodD_all {z : ZD} (hh : headD z = true) (hr : z.r.all (fun u => !neg0 u) = true) (hc : (List.range z.ids.length).all (colOk z) = true) : goodD z = true := by
 unfold goodD
 rw [hh, hr, hc]
 rfl
theorem range_step (p : Nat → Bool) (k : Nat) (h : (List.range k).all p = true) (hk : p k = true) : (List.range (k + 1)).all p = true := by
 rw [List.range_succ, List.all_append, h]
 simp [hk]
theorem cells6 {w : World} {g : Nat} {t : TypeId} {b0 b1 b2 b3 b4 b5 : Value} (h : w.heap[g]? = some (.cells #[b0, b1, b2, b3, b4, b5] t (0, 0))) :
  w.cell? ⟨g, 0, none⟩ = some b0 ∧ w.cell? ⟨g, 1, none⟩ = some b1 ∧ w.cell? ⟨g, 2, none⟩ = some b2 ∧ w.cell? ⟨g, 3, none⟩ = some b3 ∧ w.cell? ⟨g, 4, none⟩ = some b4 ∧ w.cell? ⟨g, 5, none⟩ = some b5 := by
 refine ⟨?_, ?_, ?_, ?_, ?_, ?_⟩ <;> (rw [cell_of_row _ _ _ _ _ _ h]; rfl)
theorem maxF {n : Nat} (h : n ≤ MAXF) : n ≤ maxLen := by unfold MAXF at h; unfold maxLen; omega
set_option maxHeartbeats 8000000 in
theorem good_body (w : World) (A B C D : Option Addr) (kA kB kC kD : Nat) (z : ZD) (h : ZCells w z A B C D kA kB kC kD) (hk : ZOk z) (hh : headD z = true) :
  Calls Tryz.prog 61 #[zval z A B C D kA kB kC kD] w fun e w' => e = .returned (.bool (goodD z)) ∧ Below w.heap.size w w' := by
 obtain ⟨n, c, ids, g, r, bad⟩ := z
 obtain ⟨p1, p2, p3, p4, p5, p6⟩ := headD_parts hh
 obtain rfl : bad = false := p1
 show Calls Tryz.prog 61 #[.agg #[.int .i64 n, .slice A c.length kA, .slice B ids.length kB, .slice C g.length kC, .slice D r.length kD, .bool false]] w _
 replace p2 : 1 ≤ n := p2
 replace p3 : n ≤ 256 := p3
 replace p4 : rowD c n = true := p4
 replace p5 : rowD r n = true := p5
 replace p6 : ids.length = g.length := p6
 rw [← p6]
 have hb1 := below_alloc w (.cells #[.int .i64 n, .slice A c.length kA, .slice B ids.length kB, .slice C ids.length kC, .slice D r.length kD, .bool false] 26)
 have h1 := row_any _ A c.length kA c n (h.c.below (Nat.le_refl _) hb1) hk.c rfl (maxF hk.lc)
 have h2 := row_any _ D r.length kD r n (h.r.below (Nat.le_refl _) hb1) hk.r rfl (maxF hk.lr)
 rw [p4] at h1
 rw [p5] at h2
 have hr : FR _ D r := h.r.below (Nat.le_refl _) hb1
 have hi : IR _ B ids := h.ids.below (Nat.le_refl _) hb1
 have hg : GR _ C g := h.g.below hb1
 have hnr := ((rowD_iff _ _).1 p5).1
 have n1' : decide (n < 1) = false := by simp; omega
 have n2' : decide (256 < n) = false := by simp; omega
 have lr : r.length ≤ MAXF := hk.lr
 have li : ids.length ≤ MAXF := hk.li
 unfold MAXF at lr li
 have sr : Small r := hk.r
 have HG : Hid (∀ g' ∈ g, Small g' ∧ g'.length ≤ MAXF) := Lib.hid hk.g
 have hbx := heap_alloc_new w (.cells #[.int .i64 n, .slice A c.length kA, .slice B ids.length kB, .slice C ids.length kC, .slice D r.length kD, .bool false] 26)
 have P6 := Lib.hid p6
 have HH := Lib.hid hh
 have HB := Lib.hid hb1
 clear p2 p3 p4 p5 p6 hh h hk hb1
 go_enter Tryz.func61, Tryz.ntmps61
 go_wp2_with fail
 refine h1.mono ?_
 rintro e w' ⟨rfl, rfl⟩
 go_wp2_with fail
 refine h2.mono ?_
 rintro e w' ⟨rfl, rfl⟩
 clear h1 h2
 generalize w.alloc (.cells #[.int .i64 n, .slice A c.length kA, .slice B ids.length kB, .slice C ids.length kC, .slice D r.length kD, .bool false] 26) = W at *
 have hbs : w.heap.size < W.heap.size := (Array.getElem?_eq_some_iff.1 hbx).1
 obtain ⟨x0, x1, x2, x3, x4, x5⟩ := cells6 hbx
 clear hbx x1
 go_wp2_with fail
 go_loop [47] (fun i => ∃ k : Nat, k ≤ r.length ∧ i = .int .i64 (k : Nat) ∧ (r.take k).all (fun u => !neg0 u) = true) (fun i => r.length - (intOf i).toNat)
 case atStart => exact ⟨0, Nat.zero_le _, rfl, rfl⟩
 case round =>
  obtain ⟨k, hk, rfl, hall⟩ := hrel
  have HA := Lib.hid hall
  clear hall
  by_cases hlt : k < r.length
  ·have hlt' : (k : Int) < (r.length : Int) := by omega
   obtain ⟨u, hu⟩ := get_some r k hlt
   obtain ⟨b, o, rfl, hb, hc⟩ := hr.cell (Below.refl _ _) k u hu
   have hz := order_zero u (sr.at k u hu) (hnr u (List.mem_of_getElem? hu))
   have HU := Lib.hid hu
   clear hu hr hi hg hnr sr n1' n2'
   rcases hz with ⟨hn, ho⟩ | ⟨hn, _, ho⟩ | ⟨hn, _, ho⟩
   ·have HN := Lib.hid hn
    clear hn
    go_wp2_with fail
    go_ret
    exact ⟨by rw [goodD_neg k u HU.out HN.out]; rfl, HB.out⟩
   all_goals
    have HN := Lib.hid hn
    clear hn
    go_wp2_with fail
    go_round
    case rel => exact ⟨k + 1, by omega, by go_num, all_take _ _ _ _ HU.out HA.out (by rw [HN.out]; rfl)⟩
    case measure => simp [intOf]; omega
  ·obtain rfl : k = r.length := by omega
   have hlt' : decide ((r.length : Int) < (r.length : Nat)) = false := by simp
   have HR : Hid (r.all (fun u => !neg0 u) = true) := Lib.hid (by have := HA.out; rw [List.take_length] at this; exact this)
   clear HA hnr sr n1' n2' hr
   go_wp2_with fail
   clear hlt'
   go_loopw [57] (fun i wr => ∃ k : Nat, k ≤ ids.length ∧ i = .int .i64 (k : Nat) ∧ Below W.heap.size W wr ∧ (List.range k).all (colOk ⟨n, c, ids, g, r, false⟩) = true) (fun i _ => ids.length - (intOf i).toNat)
   case atStart => exact ⟨0, Nat.zero_le _, rfl, Below.refl _ _, rfl⟩
   case round =>
    obtain ⟨k, hk, rfl, hbl, hall⟩ := hrel
    have HA := Lib.hid hall
    clear hall
    by_cases hlt : k < ids.length
    ·have hlt' : (k : Int) < (ids.length : Int) := by omega
     obtain ⟨i, hi0⟩ := get_some ids k hlt
     obtain ⟨g', hg0⟩ := get_some g k (by have := P6.out; omega)
     obtain ⟨b, o, rfl, hb, hc⟩ := hi.cell hbl k i hi0
     obtain ⟨b', o', rfl, hb', B', cap', hc', hcap', hcm', hg'⟩ := hg.at hbl k g' hg0
     have y0 := (hbl.cell (p := ⟨w.heap.size, 0, none⟩) hbs).trans x0
     have y2 := (hbl.cell (p := ⟨w.heap.size, 2, none⟩) hbs).trans x2
     have y3 := (hbl.cell (p := ⟨w.heap.size, 3, none⟩) hbs).trans x3
     have hrd : ∀ m : Nat, Calls Tryz.prog 71 #[.slice B' g'.length cap', .int .i64 n] (wr.drewN m) fun e w' => e = .returned (.bool (rowD g' n)) ∧ w' = wr.drewN m := fun m => row_any (wr.drewN m) B' g'.length cap' g' n hg' (HG.out g' (List.mem_of_getElem? hg0)).1 rfl (maxF (HG.out g' (List.mem_of_getElem? hg0)).2)
     have HI := Lib.hid hi0
     have HG0 := Lib.hid hg0
     have hbad : ∀ (e : Ending) (w' : World), e = .returned (.bool false) → colOk ⟨n, c, ids, g, r, false⟩ k = false → Below W.heap.size W w' → e = .returned (.bool (goodD ⟨n, c, ids, g, r, false⟩)) ∧ Below w.heap.size w w' := fun e w' he hcol hb => by
      refine ⟨?_, HB.out.trans (hb.mono (by omega))⟩
      rw [goodD_col k hlt hcol]
      exact he
     have HBAD := Lib.hid hbad
     clear hbad hi0 hg0 hg' hg
     by_cases i1 : i < 0
     ·have hcol : colOk ⟨n, c, ids, g, r, false⟩ k = false := by
       unfold colOk idOk
       rw [List.getD_eq_getElem?_getD, HI.out, Option.getD_some, decide_eq_false (by omega)]
       rfl
      have HC := Lib.hid hcol
      clear hcol hrd
      go_wp2_with fail
      go_quiet (fail)
      go_wp2_with fail
      go_ret
      exact HBAD.out _ _ rfl HC.out (below_drewN' hbl _)
     ·have i1' : decide (i < 0) = false := by simp; omega
      by_cases i2 : 1073741824 < i
      ·have hcol : colOk ⟨n, c, ids, g, r, false⟩ k = false := by
        unfold colOk idOk
        rw [List.getD_eq_getElem?_getD, HI.out, Option.getD_some, decide_eq_false (show ¬ i ≤ 1073741824 by omega)]
        simp
       have HC := Lib.hid hcol
       clear hcol hrd
       go_wp2_with fail
       go_quiet (fail)
       go_wp2_with fail
       go_ret
       exact HBAD.out _ _ rfl HC.out (below_drewN' hbl _)
      ·have i2' : decide (1073741824 < i) = false := by simp; omega
       by_cases k0 : k = 0
       ·have k0' : decide ((0 : Int) < (k : Int)) = false := by simp; omega
        have k0'' : decide (0 < k) = false := by simp; omega
        have hcol : colOk ⟨n, c, ids, g, r, false⟩ k = rowD g' n := by
         unfold colOk idOk
         simp only [List.getD_eq_getElem?_getD, HI.out, HG0.out, Option.getD_some]
         rw [decide_eq_true (show 0 ≤ i by omega), decide_eq_true (show i ≤ 1073741824 by omega), show (k == 0) = true by rw [k0]; rfl]
         rfl
        have HC := Lib.hid hcol
        clear hcol i1 i2 k0
        cases hrg : rowD g' n with
        | true =>
         simp only [hrg] at hrd
         have HRG := Lib.hid hrg
         clear hrg
         go_wp2_with fail
         go_quiet ((go_at_call 71; exact Calls.quiet_of_same (hrd _)))
         go_wp2_with fail
         go_roundw
         case rel => exact ⟨k + 1, by omega, by go_num, below_drewN' hbl _, range_step _ _ HA.out (by rw [HC.out, HRG.out])⟩
         case measure => simp [intOf]; omega
        | false =>
         simp only [hrg] at hrd
         have HRG := Lib.hid hrg
         clear hrg
         go_wp2_with fail
         go_quiet ((go_at_call 71; exact Calls.quiet_of_same (hrd _)))
         go_wp2_with fail
         go_ret
         exact HBAD.out _ _ rfl (HC.out.trans HRG.out) (below_drewN' hbl _)
       ·obtain ⟨i', hi'⟩ := get_some ids (k - 1) (by omega)
        obtain ⟨b2, o2, e2, hb2, hcp⟩ := hi.cell hbl (k - 1) i' hi'
        injection e2 with e2
        injection e2 with e2 e3
        subst e2 e3
        have k0' : (0 : Int) < (k : Int) := by omega
        have k0'' : 0 < k := by omega
        have kw : IntKind.i64.wrap ((k : Int) - 1) = (k : Int) - 1 := IntWalk.i64_in _ (by omega)
        have kn : ((k : Int) - 1).toNat = k - 1 := by omega
        have kp : (0 : Int) ≤ (k : Int) - 1 := by omega
        have kp' : 1 ≤ k := by omega
        have kl : (k : Int) - 1 < (ids.length : Int) := by omega
        have hcol : colOk ⟨n, c, ids, g, r, false⟩ k = (decide (i' < i) && rowD g' n) := by
         unfold colOk idOk
         simp only [List.getD_eq_getElem?_getD, HI.out, HG0.out, hi', Option.getD_some]
         rw [decide_eq_true (show 0 ≤ i by omega), decide_eq_true (show i ≤ 1073741824 by omega), show (k == 0) = false by rw [beq_eq_false_iff_ne]; omega]
         rfl
        have HC := Lib.hid hcol
        clear hcol i1 i2 k0 hi' hi
        by_cases i3 : i ≤ i'
        ·have hd := Lib.hid (decide_eq_false (show ¬ i' < i by omega))
         clear hrd
         go_wp2_with fail
         go_quiet (fail)
         go_wp2_with fail
         go_ret
         exact HBAD.out _ _ rfl (by rw [HC.out, hd.out]; rfl) (below_drewN' hbl _)
        ·have i3' : decide (i ≤ i') = false := by simp; omega
         have hd := Lib.hid (decide_eq_true (show i' < i by omega))
         clear i3
         cases hrg : rowD g' n with
         | true =>
          simp only [hrg] at hrd
          have HRG := Lib.hid hrg
          clear hrg
          go_wp2_with fail
          go_quiet ((go_at_call 71; exact Calls.quiet_of_same (hrd _)))
          clear kw kn kp kl
          go_wp2_with fail
          go_roundw
          case rel => exact ⟨k + 1, by omega, by go_num, below_drewN' hbl _, range_step _ _ HA.out (by rw [HC.out, HRG.out, hd.out]; rfl)⟩
          case measure => simp [intOf]; omega
         | false =>
          simp only [hrg] at hrd
          have HRG := Lib.hid hrg
          clear hrg
          go_wp2_with fail
          go_quiet ((go_at_call 71; exact Calls.quiet_of_same (hrd _)))
          go_wp2_with fail
          go_ret
          exact HBAD.out _ _ rfl (by rw [HC.out, HRG.out, hd.out]; rfl) (below_drewN' hbl _)
    ·obtain rfl : k = ids.length := by omega
     have hlt' : decide ((ids.length : Int) < (ids.length : Nat)) = false := by simp
     have hfin := Lib.hid (goodD_all HH.out HR.out HA.out)
     clear HA
     go_wp2_with fail
     go_ret
     exact ⟨by rw [hfin.out]; rfl, HB.out.trans (hbl.mono (by omega))⟩
theorem good_any (w : World) (v : Value) (z : ZD) (h : ZIs w v z) (hk : ZOk z) :
  Calls Tryz.prog 61 #[v] w fun e w' => e = .returned (.bool (goodD z)) ∧ Below w.heap.size w w' := by
 obtain ⟨A, B, C, D, kA, kB, kC, kD, rfl, hc⟩ := h
 cases hh : headD z with
 | true => exact good_body w A B C D kA kB kC kD z hc hk hh
 | false =>
  have hg : goodD z = false := by unfold goodD; rw [hh]; rfl
  rw [hg]
  exact good_head w A B C D kA kB kC kD z hc hk hh
end Go.Proofs.YtpfbgenefjhcjaaGreatDoor
