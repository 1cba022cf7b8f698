/-
 zono.lost, Check, bad.
 Lists of the call's own, by the types of the blocks that hold them; lists of lists under way.
 ambitref10.Of: a zonotope by its bits.
-/
import Derived.Test.YtpfbgenefjhcjaaGreatDoorZoLateT
import Derived.Test.YtpfbgenefjhcjaaGreatDoorPZoLow
namespace Go.Proofs.YtpfbgenefjhcjaaGreatDoor
set_option linter.unusedVariables false
set_option linter.unusedSimpArgs false
open Go Go.RowKit
set_option maxRecDepth 100000
/-- The walk of lost, by what decides it. -/
def lostB (n : Int) (a b c d : Nat) (bad : Bool) : Bool := bad && decide (0 ≤ n) && decide (n ≤ 256) && a == 0 && b == 0 && c == 0 && d == 0
set_option maxHeartbeats 2000000 in
theorem lost_walk (w : World) (A B C D : Option Addr) (kA kB kC kD la lb lc ld : Nat) (n : Int) (bad : Bool) :
  Calls Tryz.prog 62 #[.agg #[.int .i64 n, .slice A la kA, .slice B lb kB, .slice C lc kC, .slice D ld kD, .bool bad]] w fun e w' => e = .returned (.bool (lostB n la lb lc ld bad)) ∧ Below w.heap.size w w' := by
 have HB := Lib.hid (below_alloc w (.cells #[.int .i64 n, .slice A la kA, .slice B lb kB, .slice C lc kC, .slice D ld kD, .bool bad] 26))
 have key : ∀ x, lostB n la lb lc ld bad = x → Hid (∀ e, e = .returned (.bool x) → e = Ending.returned (.bool (lostB n la lb lc ld bad))) := fun x h => Lib.hid (by rw [h]; exact fun e h => h)
 cases bad with
 | false =>
  have HK := key false (by simp [lostB])
  clear key
  go_enter Tryz.func62, Tryz.ntmps62
  go_wp2_with fail
  go_ret
  exact ⟨HK.out _ rfl, HB.out⟩
 | true =>
  by_cases n0 : 0 ≤ n
  ·by_cases n2 : n ≤ 256
   ·by_cases a0 : la = 0
    ·subst a0
     by_cases b0 : lb = 0
     ·subst b0
      by_cases c0 : lc = 0
      ·subst c0
       by_cases d0 : ld = 0
       ·subst d0
        have HK := key true (by simp [lostB, n0, n2])
        clear key
        go_enter Tryz.func62, Tryz.ntmps62
        go_wp2_with fail
        go_ret
        exact ⟨HK.out _ rfl, HB.out⟩
       ·have HK := key false (by simp [lostB, d0])
        have d0' : ((ld : Int) == 0) = false := by rw [beq_eq_false_iff_ne]; omega
        clear key d0
        go_enter Tryz.func62, Tryz.ntmps62
        go_wp2_with fail
        go_ret
        exact ⟨HK.out _ rfl, HB.out⟩
      ·have HK := key false (by simp [lostB, c0])
       have c0' : ((lc : Int) == 0) = false := by rw [beq_eq_false_iff_ne]; omega
       clear key c0
       go_enter Tryz.func62, Tryz.ntmps62
       go_wp2_with fail
       go_ret
       exact ⟨HK.out _ rfl, HB.out⟩
     ·have HK := key false (by simp [lostB, b0])
      have b0' : ((lb : Int) == 0) = false := by rw [beq_eq_false_iff_ne]; omega
      clear key b0
      go_enter Tryz.func62, Tryz.ntmps62
      go_wp2_with fail
      go_ret
      exact ⟨HK.out _ rfl, HB.out⟩
    ·have HK := key false (by simp [lostB, a0])
     have a0' : ((la : Int) == 0) = false := by rw [beq_eq_false_iff_ne]; omega
     clear key a0
     go_enter Tryz.func62, Tryz.ntmps62
     go_wp2_with fail
     go_ret
     exact ⟨HK.out _ rfl, HB.out⟩
   ·have HK := key false (by simp [lostB, n2])
    have n2' : decide (n ≤ 256) = false := by simp; omega
    clear key n2
    go_enter Tryz.func62, Tryz.ntmps62
    go_wp2_with fail
    go_ret
    exact ⟨HK.out _ rfl, HB.out⟩
  ·have HK := key false (by simp [lostB, n0])
   have n0' : decide (0 ≤ n) = false := by simp; omega
   clear key n0
   go_enter Tryz.func62, Tryz.ntmps62
   go_wp2_with fail
   go_ret
   exact ⟨HK.out _ rfl, HB.out⟩
theorem lost_any (w : World) (v : Value) (z : ZD) (h : ZIs w v z) :
  Calls Tryz.prog 62 #[v] w fun e w' => e = .returned (.bool (lostD z)) ∧ Below w.heap.size w w' := by
 obtain ⟨A, B, C, D, kA, kB, kC, kD, rfl, hc⟩ := h
 exact lost_walk w A B C D kA kB kC kD _ _ _ _ z.n z.bad
def chkD (z : ZD) : Int := if goodD z || lostD z then 0 else 100
set_option maxHeartbeats 2000000 in
theorem Check_any (w : World) (v : Value) (z : ZD) (h : ZIs w v z) (hk : ZOk z) :
  Calls Tryz.prog 19 #[v] w fun e w' => e = .returned (.int .i64 (chkD z)) ∧ Below w.heap.size w w' := by
 obtain ⟨A, B, C, D, kA, kB, kC, kD, rfl, hc⟩ := h
 have hb1 := below_alloc w (.cells #[.int .i64 z.n, .slice A z.c.length kA, .slice B z.ids.length kB, .slice C z.g.length kC, .slice D z.r.length kD, .bool z.bad] 26)
 have hz1 : ZIs (w.alloc (.cells #[.int .i64 z.n, .slice A z.c.length kA, .slice B z.ids.length kB, .slice C z.g.length kC, .slice D z.r.length kD, .bool z.bad] 26)) (zval z A B C D kA kB kC kD) z := ⟨A, B, C, D, kA, kB, kC, kD, rfl, hc.below hb1⟩
 have hg := good_any _ _ z hz1 hk
 have hl := fun w1 (hb : Below _ _ w1) => lost_any w1 _ z (hz1.below hb)
 have hbx := heap_alloc_new w (.cells #[.int .i64 z.n, .slice A z.c.length kA, .slice B z.ids.length kB, .slice C z.g.length kC, .slice D z.r.length kD, .bool z.bad] 26)
 have HB := Lib.hid hb1
 have key : ∀ x, chkD z = x → Hid (∀ e, e = .returned (.int .i64 x) → e = Ending.returned (.int .i64 (chkD z))) := fun x h => Lib.hid (by rw [h]; exact fun e h => h)
 clear hc hk hb1 hz1
 unfold zval at *
 cases e1 : goodD z with
 | true =>
  have HK := key 0 (by simp [chkD, e1])
  rw [e1] at hg
  clear key e1
  go_enter Tryz.func19, Tryz.ntmps19
  go_wp2_with fail
  refine hg.mono ?_
  rintro e w1 ⟨rfl, hb⟩
  clear hl hg hbx
  go_wp2_with fail
  go_ret
  exact ⟨HK.out _ rfl, HB.out.trans (hb.mono (by simp))⟩
 | false =>
  rw [e1] at hg
  cases e2 : lostD z with
  | true =>
   have HK := key 0 (by simp [chkD, e2])
   simp only [e2] at hl
   clear key e1 e2
   go_enter Tryz.func19, Tryz.ntmps19
   go_wp2_with fail
   refine hg.mono ?_
   rintro e w1 ⟨rfl, hb⟩
   have hl1 := hl w1 hb
   obtain ⟨x0, x1, x2, x3, x4, x5⟩ := cells6 ((hb.block w.heap.size (by simp)).trans hbx)
   clear hl hg hbx
   go_wp2_with fail
   refine hl1.mono ?_
   rintro e w2 ⟨rfl, hb2⟩
   clear x0 x1 x2 x3 x4 x5
   go_wp2_with fail
   go_ret
   exact ⟨HK.out _ rfl, HB.out.trans ((hb.trans (hb2.mono hb.size)).mono (by simp))⟩
  | false =>
   have HK := key 100 (by simp [chkD, e1, e2])
   simp only [e2] at hl
   clear key e1 e2
   go_enter Tryz.func19, Tryz.ntmps19
   go_wp2_with fail
   refine hg.mono ?_
   rintro e w1 ⟨rfl, hb⟩
   have hl1 := hl w1 hb
   obtain ⟨x0, x1, x2, x3, x4, x5⟩ := cells6 ((hb.block w.heap.size (by simp)).trans hbx)
   clear hl hg hbx
   go_wp2_with fail
   refine hl1.mono ?_
   rintro e w2 ⟨rfl, hb2⟩
   clear x0 x1 x2 x3 x4 x5
   go_wp2_with fail
   go_ret
   exact ⟨HK.out _ rfl, HB.out.trans ((hb.trans (hb2.mono hb.size)).mono (by simp))⟩
end Go.Proofs.YtpfbgenefjhcjaaGreatDoor
namespace Go.Proofs.YtpfbgenefjhcjaaGreatDoor
set_option linter.unusedVariables false
set_option linter.unusedSimpArgs false
open Go Go.RowKit
set_option maxRecDepth 100000
/-- A block of some type. -/
def Typed (w : World) (g : Nat) (t : TypeId) : Prop := ∃ cs : Array Value, w.heap[g]? = some (.cells cs t (0, 0))
theorem Typed.lt {w : World} {g : Nat} {t : TypeId} (h : Typed w g t) : g < w.heap.size := by
 obtain ⟨cs, h⟩ := h
 exact (Array.getElem?_eq_some_iff.1 h).1
theorem Typed.ne {w : World} {g g' : Nat} {t t' : TypeId} (h : Typed w g t) (h' : Typed w g' t') (hne : t ≠ t') : g ≠ g' := by
 rintro rfl
 obtain ⟨cs, h⟩ := h
 obtain ⟨cs', h'⟩ := h'
 rw [h] at h'
 injection h' with h'
 injection h' with _ ht
 exact hne ht
theorem Typed.below {w w1 : World} {g : Nat} {t : TypeId} (h : Typed w g t) (hb : Below w.heap.size w w1) : Typed w1 g t := by
 have hl := h.lt
 obtain ⟨cs, h⟩ := h
 exact ⟨cs, (hb.block g hl).trans h⟩
theorem Typed.of {w : World} {g : Nat} {t : TypeId} {cs : Array Value} (h : w.heap[g]? = some (.cells cs t (0, 0))) : Typed w g t := ⟨cs, h⟩
/-- A list that lies in a block of elements of type t. -/
structure TAt {α : Type} (c : α → Value) (t : TypeId) (w : World) (A : Option Addr) (cap : Nat) (xs : List α) : Prop where
 at_ : LAt c w A cap xs
 typed : ∀ a, A = some a → Typed w a.block t
section
variable {α : Type} {c : α → Value} {t t' : TypeId} {w w1 : World} {A : Option Addr} {cap : Nat} {xs : List α}
theorem TAt.below (h : TAt c t w A cap xs) (hb : Below w.heap.size w w1) : TAt c t w1 A cap xs := ⟨h.at_.below hb, fun a ha => (h.typed a ha).below hb⟩
theorem TAt.far {row : Option Nat} (h : TAt c t w A cap xs) (hg : w.grownBy w1 row) (hr : ∀ g, row = some g → Typed w g t') (hne : t ≠ t') : TAt c t w1 A cap xs := by
 have hk : ∀ a, A = some a → a.block < w.heap.size ∧ w1.heap[a.block]? = w.heap[a.block]? := fun a ha => ⟨(h.typed a ha).lt, hg.block _ (h.typed a ha).lt fun e => (Typed.ne (h.typed a ha) (hr _ e.symm) hne) rfl⟩
 refine ⟨⟨fun j x hx => ?_, h.at_.nil, h.at_.len, h.at_.most⟩, fun a ha => ?_⟩
 ·obtain ⟨b, o, e, h1, h2⟩ := h.at_.row j x hx
  obtain ⟨k1, k2⟩ := hk _ e
  exact ⟨b, o, e, Nat.lt_of_lt_of_le k1 hg.size, (World.cell?_of_block (a := ⟨b, o + j, none⟩) k2).trans h2⟩
 ·obtain ⟨cs, h3⟩ := h.typed a ha
  exact ⟨cs, (hk a ha).2.trans h3⟩
end
theorem OwnG.typed {α : Type} {c : α → List Value} {e : TypeId} {m base : Nat} {w : World} {v : Value} {xs : List α} (h : OwnG c e m w base v xs) : ∀ g, v.ownBlock = some g → Typed w g e := by
 intro g hg
 rcases h.2 with ⟨rfl, h0⟩ | ⟨g', cap, cur, rfl, hb, hgg, _⟩
 ·simp [Value.ownBlock] at hg
 ·simp [Value.ownBlock] at hg
  subst hg
  exact ⟨cur, hgg⟩
theorem OwnG.tat {α : Type} {c : α → Value} {e : TypeId} {base : Nat} {w : World} {v : Value} {xs : List α} (h : OwnG (fun x => [c x]) e 1 w base v xs) : ∃ A cap, v = .slice A xs.length cap ∧ TAt c e w A cap xs := by
 obtain ⟨A, cap, h1, h2⟩ := h.lat
 refine ⟨A, cap, h1, h2, fun a ha => h.typed _ ?_⟩
 subst ha
 rw [h1]
 rfl
def TellsT {α : Type} (c : α → Value) (t : TypeId) (w : World) (us : List α) (e : Ending) (w' : World) : Prop := ∃ A cap, e = .returned (.slice A us.length cap) ∧ TAt c t w' A cap us ∧ Below w.heap.size w w'
theorem Bits_t (w : World) (A : Option Addr) (n cap : Nat) (us : List Nat) (h : FR w A us) (hl : us.length = n) (hm : n ≤ MAXF) :
  Calls Tryz.prog 27 #[.slice A n cap] w fun e w' => TellsT cU 46 w us e w' := (Bits10_any w A n cap us h hl hm).mono fun e w' ⟨v, he, ho, hb⟩ => by
 obtain ⟨A', cap', rfl, hL⟩ := ho.tat
 exact ⟨A', cap', he, hL, hb⟩
/-- A list of lists under way: v holds the lists gs, each in a block of its own. -/
structure GAcc {α : Type} (c : α → Value) (t e : TypeId) (base : Nat) (wr : World) (v : Value) (vals : List Value) (gs : List (List α)) : Prop where
 own : OwnG (fun x => [cV x]) e 1 wr base v vals
 len : vals.length = gs.length
 rows : ∀ (j : Nat) (g : List α), gs[j]? = some g → ∃ A cap, vals[j]? = some (.slice A g.length cap) ∧ TAt c t wr A cap g
section
variable {α : Type} {c : α → Value} {t e : TypeId} {base : Nat} {w wr w2 : World} {v v' : Value} {vals : List Value} {gs : List (List α)}
theorem GAcc.nil (c : α → Value) (t e : TypeId) (w : World) (base : Nat) : GAcc c t e base w (.slice none 0 0) [] [] := ⟨OwnG.nil _ _, rfl, fun j g hg => by simp at hg⟩
theorem GAcc.below (h : GAcc c t e base wr v vals gs) (hb : Below wr.heap.size wr w2) : GAcc c t e base w2 v vals gs :=
 ⟨h.own.below hb, h.len, fun j g hg => by obtain ⟨A, cap, h1, h2⟩ := h.rows j g hg; exact ⟨A, cap, h1, h2.below hb⟩⟩
theorem GAcc.far {g0 : Nat} {t0 : TypeId} (h : GAcc c t e base wr v vals gs) (hg : wr.grownBy w2 (some g0)) (hz : Typed wr g0 t0) (h1 : t ≠ t0) (h2 : e ≠ t0) : GAcc c t e base w2 v vals gs := by
 refine ⟨h.own.kept hg ?_, h.len, fun j g hg' => ?_⟩
 ·cases hv : v.ownBlock with
  | none => exact Or.inl rfl
  | some k => exact Or.inr fun e => by injection e with e; exact Typed.ne (h.own.typed k hv) hz h2 e
 ·obtain ⟨A, cap, h3, h4⟩ := h.rows j g hg'
  exact ⟨A, cap, h3, h4.far hg (fun k hk => by cases hk; exact hz) h1⟩
theorem GAcc.add {A : Option Addr} {cap : Nat} {g : List α} (h : GAcc c t e base wr v vals gs) (hr : TAt c t wr A cap g) (ho : OwnG (fun x => [cV x]) e 1 w2 base v' (vals ++ [.slice A g.length cap])) (hg : wr.grownBy w2 v.ownBlock) (hne : t ≠ e) :
  GAcc c t e base w2 v' (vals ++ [.slice A g.length cap]) (gs ++ [g]) := by
 refine ⟨ho, by simp [h.len], fun j g' hg' => ?_⟩
 by_cases hj : j < gs.length
 ·rw [List.getElem?_append_left hj] at hg'
  obtain ⟨A', cap', h1, h2⟩ := h.rows j g' hg'
  exact ⟨A', cap', by rw [List.getElem?_append_left (by rw [h.len]; exact hj)]; exact h1, h2.far hg (h.own.typed) hne⟩
 ·have hl := (List.getElem?_eq_some_iff.1 hg').1
  rw [List.length_append, List.length_singleton] at hl
  obtain rfl : j = gs.length := by omega
  rw [List.getElem?_append_right (Nat.le_refl _), Nat.sub_self] at hg'
  cases hg'
  refine ⟨A, cap, ?_, hr.far hg (h.own.typed) hne⟩
  rw [List.getElem?_append_right (by rw [h.len]; exact Nat.le_refl _), h.len, Nat.sub_self]
  rfl
/-- Read. -/
theorem GAcc.row (h : GAcc c t e base wr v vals gs) : ∃ A cap, v = .slice A gs.length cap ∧ gs.length ≤ cap ∧ cap ≤ maxLen ∧ (A = none → cap = 0) ∧ RR c wr A gs := by
 obtain ⟨A, cap, h1, h2⟩ := h.own.lat
 refine ⟨A, cap, by rw [← h.len]; exact h1, by rw [← h.len]; exact h2.len, h2.most, h2.nil, fun k g hg => ?_⟩
 obtain ⟨B, cp, h3, h4⟩ := h.rows k g hg
 obtain ⟨b, o, e, hb, hc⟩ := h2.row k _ h3
 exact ⟨b, o, e, hb, B, cp, hc, h4.at_.len, h4.at_.most, h4.at_.row⟩
/-- A block of another type stays as it is where the list grows; so does what lay below. -/
theorem GAcc.keepBlock {g0 : Nat} {t0 : TypeId} {cs : Array Value} (h : GAcc c t e base wr v vals gs) (hg : wr.grownBy w2 v.ownBlock) (hz : wr.heap[g0]? = some (.cells cs t0 (0, 0))) (hne : e ≠ t0) : w2.heap[g0]? = some (.cells cs t0 (0, 0)) :=
 (hg.block g0 (Array.getElem?_eq_some_iff.1 hz).1 fun e => Typed.ne (h.own.typed g0 e.symm) (Typed.of hz) hne rfl).trans hz
theorem GAcc.keepCell {a : Addr} {x : Value} (h : GAcc c t e base wr v vals gs) (hg : wr.grownBy w2 v.ownBlock) (ha : a.block < base) (hc : wr.cell? a = some x) : w2.cell? a = some x :=
 hg.cell hc fun e => by have := (h.own.lt _ e.symm).1; omega
end
theorem OwnG.farR {α : Type} {c : α → List Value} {e t : TypeId} {m base : Nat} {w w1 : World} {v : Value} {xs : List α} {row : Option Nat} (h : OwnG c e m w base v xs) (hg : w.grownBy w1 row) (hr : ∀ g, row = some g → Typed w g t) (hne : e ≠ t) : OwnG c e m w1 base v xs := by
 refine h.kept hg ?_
 cases hv : v.ownBlock with
 | none => exact Or.inl rfl
 | some k =>
  refine Or.inr fun e => ?_
  exact Typed.ne (h.typed k hv) (hr k e.symm) hne rfl
/-- A block of another type than the row's that is written. -/
theorem block_far {w w1 : World} {g : Nat} {t t' : TypeId} {cs : Array Value} {row : Option Nat} (h : w.heap[g]? = some (.cells cs t (0, 0))) (hg : w.grownBy w1 row) (hr : ∀ g, row = some g → Typed w g t') (hne : t ≠ t') : w1.heap[g]? = some (.cells cs t (0, 0)) :=
 (hg.block g (Array.getElem?_eq_some_iff.1 h).1 fun e => Typed.ne (Typed.of h) (hr g e.symm) hne rfl).trans h
theorem GAcc.farR {α : Type} {c : α → Value} {t e t0 : TypeId} {base : Nat} {wr w2 : World} {v : Value} {vals : List Value} {gs : List (List α)} {row : Option Nat} (h : GAcc c t e base wr v vals gs) (hg : wr.grownBy w2 row) (hr : ∀ g, row = some g → Typed wr g t0) (h1 : t ≠ t0) (h2 : e ≠ t0) : GAcc c t e base w2 v vals gs :=
 ⟨h.own.farR hg hr h2, h.len, fun j g hg' => by obtain ⟨A, cap, h3, h4⟩ := h.rows j g hg'; exact ⟨A, cap, h3, h4.far hg hr h1⟩⟩
/-- A cell below the base of a row of the call's own stays. -/
theorem OwnG.cellLow {α : Type} {c : α → List Value} {e : TypeId} {m base : Nat} {w w1 : World} {v : Value} {xs : List α} (h : OwnG c e m w base v xs) (hg : w.grownBy w1 v.ownBlock) {a : Addr} {x : Value} (ha : a.block < base) (hc : w.cell? a = some x) : w1.cell? a = some x :=
 hg.cell hc fun e => by have := (h.lt _ e.symm).1; omega
theorem typed_row {w : World} {g : Nat} {t : TypeId} {cs : Array Value} (h : w.heap[g]? = some (.cells cs t (0, 0))) : ∀ k, some g = some k → Typed w k t := fun k e => by cases e; exact Typed.of h
end Go.Proofs.YtpfbgenefjhcjaaGreatDoor
namespace Go.Proofs.YtpfbgenefjhcjaaGreatDoor
set_option linter.unusedVariables false
set_option linter.unusedSimpArgs false
open Go Go.RowKit
set_option maxRecDepth 100000
theorem set6 {w : World} {g : Nat} {t : TypeId} {a0 a1 a2 a3 a4 a5 : Value} (h : w.heap[g]? = some (.cells #[a0, a1, a2, a3, a4, a5] t (0, 0))) (b0 b1 b2 b3 b4 b5 : Value) :
  ((((((w.setCell ⟨g, 0, none⟩ b0).setCell ⟨g, 1, none⟩ b1).setCell ⟨g, 2, none⟩ b2).setCell ⟨g, 3, none⟩ b3).setCell ⟨g, 4, none⟩ b4).setCell ⟨g, 5, none⟩ b5).heap[g]? = some (.cells #[b0, b1, b2, b3, b4, b5] t (0, 0)) ∧ w.grownBy ((((((w.setCell ⟨g, 0, none⟩ b0).setCell ⟨g, 1, none⟩ b1).setCell ⟨g, 2, none⟩ b2).setCell ⟨g, 3, none⟩ b3).setCell ⟨g, 4, none⟩ b4).setCell ⟨g, 5, none⟩ b5) (some g) := by
 have h0 : (w.setCell ⟨g, 0, none⟩ b0).heap[g]? = some (.cells #[b0, a1, a2, a3, a4, a5] t (0, 0)) := heap_setCell_same _ g 0 _ _ _ h
 have h1 : ((w.setCell ⟨g, 0, none⟩ b0).setCell ⟨g, 1, none⟩ b1).heap[g]? = some (.cells #[b0, b1, a2, a3, a4, a5] t (0, 0)) := heap_setCell_same _ g 1 _ _ _ h0
 have h2 : (((w.setCell ⟨g, 0, none⟩ b0).setCell ⟨g, 1, none⟩ b1).setCell ⟨g, 2, none⟩ b2).heap[g]? = some (.cells #[b0, b1, b2, a3, a4, a5] t (0, 0)) := heap_setCell_same _ g 2 _ _ _ h1
 have h3 : ((((w.setCell ⟨g, 0, none⟩ b0).setCell ⟨g, 1, none⟩ b1).setCell ⟨g, 2, none⟩ b2).setCell ⟨g, 3, none⟩ b3).heap[g]? = some (.cells #[b0, b1, b2, b3, a4, a5] t (0, 0)) := heap_setCell_same _ g 3 _ _ _ h2
 have h4 : (((((w.setCell ⟨g, 0, none⟩ b0).setCell ⟨g, 1, none⟩ b1).setCell ⟨g, 2, none⟩ b2).setCell ⟨g, 3, none⟩ b3).setCell ⟨g, 4, none⟩ b4).heap[g]? = some (.cells #[b0, b1, b2, b3, b4, a5] t (0, 0)) := heap_setCell_same _ g 4 _ _ _ h3
 have h5 : ((((((w.setCell ⟨g, 0, none⟩ b0).setCell ⟨g, 1, none⟩ b1).setCell ⟨g, 2, none⟩ b2).setCell ⟨g, 3, none⟩ b3).setCell ⟨g, 4, none⟩ b4).setCell ⟨g, 5, none⟩ b5).heap[g]? = some (.cells #[b0, b1, b2, b3, b4, b5] t (0, 0)) := heap_setCell_same _ g 5 _ _ _ h4
 exact ⟨h5, grown_set (grown_set (grown_set (grown_set (grown_set (grown_set (grown_refl w _) 0 b0) 1 b1) 2 b2) 3 b3) 4 b4) 5 b5⟩
theorem lt_alloc (w : World) (o : Obj) : w.heap.size < (w.alloc o).heap.size := by simp
theorem ne_new {a g B : Nat} (h : a < B) (hg : B ≤ g) : some a ≠ some g := by simp; omega
set_option maxHeartbeats 4000000 in
theorem Of10_any (w : World) (v : Value) (z : ZD) (h : ZIs w v z) (hk : ZOk z) :
  Calls Tryz.prog 16 #[v] w fun e w' => ∃ v', e = .returned v' ∧ UIs w' v' z ∧ Below w.heap.size w w' := by
 obtain ⟨A, B, C, D, kA, kB, kC, kD, rfl, hc⟩ := h
 have hb1 := below_alloc w (.cells #[.int .i64 z.n, .slice A z.c.length kA, .slice B z.ids.length kB, .slice C z.g.length kC, .slice D z.r.length kD, .bool z.bad] 26)
 have hbx := heap_alloc_new w (.cells #[.int .i64 z.n, .slice A z.c.length kA, .slice B z.ids.length kB, .slice C z.g.length kC, .slice D z.r.length kD, .bool z.bad] 26)
 have hc1 := hc.below hb1
 have hbs : w.heap.size < (w.alloc (.cells #[.int .i64 z.n, .slice A z.c.length kA, .slice B z.ids.length kB, .slice C z.g.length kC, .slice D z.r.length kD, .bool z.bad] 26)).heap.size := (Array.getElem?_eq_some_iff.1 hbx).1
 have s1 : (w.alloc (.cells #[.int .i64 z.n, .slice A z.c.length kA, .slice B z.ids.length kB, .slice C z.g.length kC, .slice D z.r.length kD, .bool z.bad] 26)).heap.size = w.heap.size + 1 := by simp
 unfold zval
 go_enter Tryz.func16, Tryz.ntmps16
 go_wp2_with fail
 have hb2 := below_alloc (w.alloc (.cells #[.int .i64 z.n, .slice A z.c.length kA, .slice B z.ids.length kB, .slice C z.g.length kC, .slice D z.r.length kD, .bool z.bad] 26)) (.cells #[.int .i64 0, .slice none 0 0, .slice none 0 0, .slice none 0 0, .slice none 0 0, .bool false] 30)
 have hrx := heap_alloc_new (w.alloc (.cells #[.int .i64 z.n, .slice A z.c.length kA, .slice B z.ids.length kB, .slice C z.g.length kC, .slice D z.r.length kD, .bool z.bad] 26)) (.cells #[.int .i64 0, .slice none 0 0, .slice none 0 0, .slice none 0 0, .slice none 0 0, .bool false] 30)
 have hbx2 := (hb2.block w.heap.size hbs).trans hbx
 have hb12 := hb1.trans (hb2.mono hb1.size)
 have hc2 := hc1.below hb2
 rw [s1] at hrx
 generalize (w.alloc (.cells #[.int .i64 z.n, .slice A z.c.length kA, .slice B z.ids.length kB, .slice C z.g.length kC, .slice D z.r.length kD, .bool z.bad] 26)).alloc (.cells #[.int .i64 0, .slice none 0 0, .slice none 0 0, .slice none 0 0, .slice none 0 0, .bool false] 30) = W at *
 obtain ⟨x0, x1, x2, x3, x4, x5⟩ := cells6 hbx2
 have hW : w.heap.size + 1 < W.heap.size := (Array.getElem?_eq_some_iff.1 hrx).1
 have hW0 : w.heap.size < W.heap.size := by omega
 have HB := Lib.hid hb12
 have Q1 := fun w1 (hb : Below W.heap.size W w1) => Bits_t w1 A z.c.length kA z.c (hc2.c.below (Nat.le_refl _) hb) rfl hk.lc
 have Q2 := fun w1 (hb : Below W.heap.size W w1) => Bits_t w1 D z.r.length kD z.r (hc2.r.below (Nat.le_refl _) hb) rfl hk.lr
 have HC2 := Lib.hid hc2
 clear hb1 hbx hc hc1 hbs s1 hb2 hb12 hbx2 hc2
 have hd0 : Below W.heap.size W W.drew := (Below.refl _ _).drew
 go_region_held3 (fun w' => w'.cell? ⟨w.heap.size, 0, none⟩ = some (.int .i64 z.n) ∧ w'.cell? ⟨w.heap.size, 1, none⟩ = some (.slice A z.c.length kA) ∧ w'.cell? ⟨w.heap.size, 4, none⟩ = some (.slice D z.r.length kD) ∧ w'.cell? ⟨w.heap.size, 5, none⟩ = some (.bool z.bad))
  (first | (with_reducible exact ⟨x0, x1, x4, x5⟩) | (with_reducible exact ⟨(hg6.cell (p := ⟨w.heap.size, 0, none⟩) hW0).trans x0, (hg6.cell (p := ⟨w.heap.size, 1, none⟩) hW0).trans x1, (hg6.cell (p := ⟨w.heap.size, 4, none⟩) hW0).trans x4, (hg6.cell (p := ⟨w.heap.size, 5, none⟩) hW0).trans x5⟩) | (with_reducible exact ⟨(hg7.cell (p := ⟨w.heap.size, 0, none⟩) hW0).trans x0, (hg7.cell (p := ⟨w.heap.size, 1, none⟩) hW0).trans x1, (hg7.cell (p := ⟨w.heap.size, 4, none⟩) hW0).trans x4, (hg7.cell (p := ⟨w.heap.size, 5, none⟩) hW0).trans x5⟩) | (with_reducible exact ⟨(set6 hz7 _ _ _ _ _ _).2.cell ((hg7.cell (p := ⟨w.heap.size, 0, none⟩) hW0).trans x0) hne7, (set6 hz7 _ _ _ _ _ _).2.cell ((hg7.cell (p := ⟨w.heap.size, 1, none⟩) hW0).trans x1) hne7, (set6 hz7 _ _ _ _ _ _).2.cell ((hg7.cell (p := ⟨w.heap.size, 4, none⟩) hW0).trans x4) hne7, (set6 hz7 _ _ _ _ _ _).2.cell ((hg7.cell (p := ⟨w.heap.size, 5, none⟩) hW0).trans x5) hne7⟩) | (with_reducible exact ⟨((below_alloc W _).drew.cell (p := ⟨w.heap.size, 0, none⟩) hW0).trans x0, ((below_alloc W _).drew.cell (p := ⟨w.heap.size, 1, none⟩) hW0).trans x1, ((below_alloc W _).drew.cell (p := ⟨w.heap.size, 4, none⟩) hW0).trans x4, ((below_alloc W _).drew.cell (p := ⟨w.heap.size, 5, none⟩) hW0).trans x5⟩) | (with_reducible exact ⟨((hg6.alloc hg6.size _).cell (p := ⟨w.heap.size, 0, none⟩) hW0).trans x0, ((hg6.alloc hg6.size _).cell (p := ⟨w.heap.size, 1, none⟩) hW0).trans x1, ((hg6.alloc hg6.size _).cell (p := ⟨w.heap.size, 4, none⟩) hW0).trans x4, ((hg6.alloc hg6.size _).cell (p := ⟨w.heap.size, 5, none⟩) hW0).trans x5⟩) | (with_reducible exact ⟨((hg7.alloc hg7.size _).cell (p := ⟨w.heap.size, 0, none⟩) hW0).trans x0, ((hg7.alloc hg7.size _).cell (p := ⟨w.heap.size, 1, none⟩) hW0).trans x1, ((hg7.alloc hg7.size _).cell (p := ⟨w.heap.size, 4, none⟩) hW0).trans x4, ((hg7.alloc hg7.size _).cell (p := ⟨w.heap.size, 5, none⟩) hW0).trans x5⟩) | go_keep)
  (first
   | (go_at_call 27; (with_reducible refine (Q1 _ hd0).mono ?_); rintro e w6 ⟨A6, cap6, rfl, hL6, hb6⟩; have hg6 : Below W.heap.size W w6 := hd0.trans (hb6.mono hd0.size))
   | (go_at_call 27; (with_reducible refine (Q1 _ ((below_alloc W _).drew)).mono ?_); rintro e w6 ⟨A6, cap6, rfl, hL6, hb6⟩; have hz6 : w6.heap[W.heap.size]? = some (.cells #[.int .i64 0, .slice none 0 0, .slice none 0 0, .slice none 0 0, .slice none 0 0, .bool false] 30 (0, 0)) := (hb6.block W.heap.size (lt_alloc W _)).trans (heap_alloc_new W _); have hs6 : W.heap.size ≤ W.heap.size := Nat.le_refl _; have hg6 : Below W.heap.size W w6 := (below_alloc W _).drew.trans (hb6.mono (below_alloc W _).drew.size))
   | (go_at_call 27; revert hz6; intro hz6; (with_reducible refine (Q2 _ hg6).mono ?_); rintro e w7 ⟨A7, cap7, rfl, hL7, hb7⟩; have hz7 := (hb7.block _ (Array.getElem?_eq_some_iff.1 hz6).1).trans hz6; have hg7 : Below W.heap.size W w7 := hg6.trans (hb7.mono hg6.size); have hne7 := ne_new hW0 hs6; obtain ⟨z0, z1, z2, z3, z4, z5⟩ := cells6 hz7; have hfr := (fun j => frozen_of_row w7 _ j _ _ hz7); have hL67 := hL6.below hb7)
   | (go_at_call 27; (with_reducible refine (Q2 _ hg6).mono ?_); rintro e w7 ⟨A7, cap7, rfl, hL7, hb7⟩; have hg7 : Below W.heap.size W w7 := hg6.trans (hb7.mono hg6.size); have hL67 := hL6.below hb7)
   | (go_at_call 27; (with_reducible refine (Q2 _ (hg6.alloc hg6.size _)).mono ?_); rintro e w7 ⟨A7, cap7, rfl, hL7, hb7⟩; have hz7 := (hb7.block _ (lt_alloc _ _)).trans (heap_alloc_new w6 _); have hs7 : W.heap.size ≤ w6.heap.size := hg6.size; have hg7 : Below W.heap.size W w7 := (hg6.alloc hg6.size _).trans (hb7.mono (hg6.alloc hg6.size _).size); have hne7 := ne_new hW0 hs7; obtain ⟨z0, z1, z2, z3, z4, z5⟩ := cells6 hz7; have hfr := (fun j => frozen_of_row w7 _ j _ _ hz7); have hL67 := (hL6.below (below_alloc w6 _)).below hb7))

 ·-- the rest
  have hb9 : Below W.heap.size W (w7.alloc (.cells #[.int .i64 z.n, .slice A6 z.c.length cap6, .slice none 0 0, .slice none 0 0, .slice A7 z.r.length cap7, .bool z.bad] 30)) := hg7.alloc hg7.size _
  have hz9 := heap_alloc_new w7 (.cells #[.int .i64 z.n, .slice A6 z.c.length cap6, .slice none 0 0, .slice none 0 0, .slice A7 z.r.length cap7, .bool z.bad] 30)
  have hL6' := hL67.below (below_alloc w7 (.cells #[.int .i64 z.n, .slice A6 z.c.length cap6, .slice none 0 0, .slice none 0 0, .slice A7 z.r.length cap7, .bool z.bad] 30))
  have hL7' := hL7.below (below_alloc w7 (.cells #[.int .i64 z.n, .slice A6 z.c.length cap6, .slice none 0 0, .slice none 0 0, .slice A7 z.r.length cap7, .bool z.bad] 30))
  have hgW : W.heap.size ≤ w7.heap.size := hg7.size
  generalize hG : w7.heap.size = G at *
  generalize w7.alloc (.cells #[.int .i64 z.n, .slice A6 z.c.length cap6, .slice none 0 0, .slice none 0 0, .slice A7 z.r.length cap7, .bool z.bad] 30) = W9 at *
  clear hL67 hL7 hL6 hg7 hb7 hg6 hb6 hG
  obtain ⟨y0, y1, y2, y3, y4, y5⟩ := cells6 hz9
  have hGl : G < W9.heap.size := (Array.getElem?_eq_some_iff.1 hz9).1
  have hxl : w.heap.size < W9.heap.size := Nat.lt_of_lt_of_le hW0 hb9.size
  have x2' := (hb9.cell (p := ⟨w.heap.size, 2, none⟩) hW0).trans x2
  have hI9 := HC2.out.ids.below (Nat.le_refl _) hb9
  have hcB := HC2.out.cB
  have hI0 : OwnG (fun x => [cI x]) 3 1 W9 W9.heap.size (.slice none 0 0) [] := OwnG.nil _ _
  have hli := hk.li
  unfold MAXF at hli
  go_wp2_with (at_builtin; refine wpList_append_came (fun x => [cI x]) 1 8 (.int .i64 0) 23 3 Tryz.underlying23 infoInt rfl (by decide) (fun _ => rfl) rfl (.tmp 17) (.tmp 19) rfl W9.heap.size _ [] z.ids rfl hI0 B z.ids.length kB rfl rfl hcB.2.2 hI9.news hcB.1 (by unfold maxLen; simp; omega) (by simp; omega) (Nat.le_refl _) (fun x _ u hu => by simp at hu; subst hu; rfl) ?_; intro v10 w10 ho10 hg10 _; have hb10 := below_ownG hI0 hg10 (Nat.le_refl _); obtain ⟨B6, capB, rfl, hLB⟩ := ho10.tat; have hz10 := (hb10.block G hGl).trans hz9; obtain ⟨y0', y1', y2', y3', y4', y5'⟩ := cells6 hz10; have hfr10 := (fun j => frozen_of_row w10 _ j _ _ hz10); clear ho10 hg10)
  have hz11 : (w10.setCell ⟨G, 2, none⟩ (.slice B6 z.ids.length capB)).heap[G]? = some (.cells #[.int .i64 z.n, .slice A6 z.c.length cap6, .slice B6 z.ids.length capB, .slice none 0 0, .slice A7 z.r.length cap7, .bool z.bad] 30 (0, 0)) := heap_setCell_same w10 G 2 _ _ _ hz10
  have hgs := grown_set (grown_refl w10 G) 2 (.slice B6 z.ids.length capB)
  have hb11 := (hb9.trans (hb10.mono hb9.size)).setCell (p := ⟨G, 2, none⟩) hgW (.slice B6 z.ids.length capB)
  have hL6n := (hL6'.below hb10).far hgs (fun k e => by cases e; exact Typed.of hz10) (by decide)
  have hL7n := (hL7'.below hb10).far hgs (fun k e => by cases e; exact Typed.of hz10) (by decide)
  have hLBn := hLB.far hgs (fun k e => by cases e; exact Typed.of hz10) (by decide)
  clear hz10 y0' y1' y2' y3' y4' y5' hfr10 hgs hL6' hL7' hLB hb10 hb9 hz9 y0 y1 y2 y3 y4 y5 hGl hxl x2' hI9 hcB hI0 hli Q1 Q2 hd0 x0 x1 x2 x4 x5
  generalize w10.setCell ⟨G, 2, none⟩ (.slice B6 z.ids.length capB) = W1 at *
  have hlg := hk.lg
  unfold MAXG at hlg
  have hG0 : GAcc cU 46 27 W.heap.size W1 (.slice none 0 0) [] (z.g.take 0) := GAcc.nil _ _ _ _ _
  go_loopw [4] (fun i wr => ∃ k : Nat, k ≤ z.g.length ∧ i = .int .i64 (k : Nat) ∧ ∃ (v : Value) (vals : List Value), wr.heap[G]? = some (.cells #[.int .i64 z.n, .slice A6 z.c.length cap6, .slice B6 z.ids.length capB, v, .slice A7 z.r.length cap7, .bool z.bad] 30 (0, 0)) ∧ GAcc cU 46 27 W.heap.size wr v vals (z.g.take k) ∧ Below W.heap.size W wr ∧ TAt cU 46 wr A6 cap6 z.c ∧ TAt cI 3 wr B6 capB z.ids ∧ TAt cU 46 wr A7 cap7 z.r) (fun i _ => z.g.length - (intOf i).toNat)
  case atStart => exact ⟨0, Nat.zero_le _, rfl, _, _, hz11, hG0, hb11, hL6n, hLBn, hL7n⟩
  case round =>
   obtain ⟨k, hk', rfl, v, vals, hzr, hr, hbr, t6, tB, t7⟩ := hrel
   clear hG0 hz11 hb11 hL6n hL7n hLBn
   have q4 := (hbr.cell (p := ⟨w.heap.size, 3, none⟩) hW0).trans x3
   by_cases hlt : k < z.g.length
   ·have hlt' : (k : Int) < (z.g.length : Int) := by omega
    obtain ⟨g', hg0⟩ := get_some z.g k hlt
    obtain ⟨b, o, rfl, hb, B', cap', q5, hcap', hcm', hg'⟩ := HC2.out.g.at hbr k g' hg0
    obtain ⟨_, _, _, q3, _, _⟩ := cells6 hzr
    have hGr : G < wr.heap.size := (Array.getElem?_eq_some_iff.1 hzr).1
    have hxr : w.heap.size < wr.heap.size := Nat.lt_of_lt_of_le hW0 hbr.size
    have hbr' : b < wr.heap.size := Nat.lt_of_lt_of_le hb hbr.size
    have hvl : vals.length ≤ k := by rw [hr.len]; exact List.length_take_le _ _
    have hBits := fun w1 (h : Below wr.heap.size wr w1) => Bits_t w1 B' g'.length cap' g' (hg'.below (Nat.le_refl _) h) rfl (hk.g g' (List.mem_of_getElem? hg0)).2
    have hWr := hbr.size
    have HT := Lib.hid (take_more z.g k g' hg0)
    have HHB := Lib.hid hbr
    clear hg0 hg' hbr
    go_wp2_with fail
    refine late_begin (fun w' => w'.cell? ⟨G, 3, none⟩ = some v ∧ w'.cell? ⟨w.heap.size, 3, none⟩ = some (.slice (some ⟨b, o, none⟩) z.g.length kC) ∧ w'.cell? ⟨b, o + k, none⟩ = some (.slice B' g'.length cap')) [11] (by kernel_rfl) ?_
    refine lateT 0 (some 29) rfl rfl ⟨q3, q4, q5⟩ ?_
    try simp only [Act.put, lA, lZ, lC]
    refine lateT 1 (some 30) rfl rfl ⟨q3, q4, q5⟩ ?_
    try simp only [Act.put, lA, lZ, lC]
    refine lateT 2 (some 31) rfl rfl ⟨q3, q4, q5⟩ ?_
    try simp only [Act.put, lA, lZ, lC]
    refine lateT 3 (some 32) rfl rfl ⟨q3, q4, q5⟩ ?_
    try simp only [Act.put, lA, lZ, lC]
    refine lateT 4 (some 33) rfl rfl ⟨q3, q4, q5⟩ ?_
    try simp only [Act.put, lA, lZ, lC]
    refine lateT 5 (some 34) rfl rfl ⟨q3, q4, q5⟩ ?_
    try simp only [Act.put, lA, lZ, lC]
    refine lateT 6 (some 35) rfl rfl ⟨q3, q4, q5⟩ ?_
    try simp only [Act.put, lA, lZ, lC]
    refine late_one (i := 7) rfl (by kernel_rfl) ?_
    intro K hK
    go_simp
    refine (hBits _ (Below.refl _ wr).drew).mono ?_
    rintro e w2 ⟨A2, c2, rfl, hT2, hb2⟩
    have hc2 := (Below.refl _ wr).drew.trans hb2
    try show K _ _
    refine hK.out _ _ (Or.inr ⟨(hc2.cell (p := ⟨G, 3, none⟩) hGr).trans q3, (hc2.cell (p := ⟨w.heap.size, 3, none⟩) hxr).trans q4, (hc2.cell (p := ⟨b, o + k, none⟩) hbr').trans q5⟩) ?_
    clear hK K
    try simp only [Act.put, lA, lZ, lC]
    refine late_one (i := 8) rfl (by kernel_rfl) ?_
    intro K hK
    go_simp
    have hc3 := hc2.alloc hc2.size (.cells #[.slice A2 g'.length c2] 27)
    have hA3 := (hr.below hc2).below (below_alloc w2 (.cells #[.slice A2 g'.length c2] 27))
    have hT3 := hT2.below (below_alloc w2 (.cells #[.slice A2 g'.length c2] 27))
    try show K _ _
    refine hK.out _ _ (Or.inr ⟨(hc3.cell (p := ⟨G, 3, none⟩) hGr).trans q3, (hc3.cell (p := ⟨w.heap.size, 3, none⟩) hxr).trans q4, (hc3.cell (p := ⟨b, o + k, none⟩) hbr').trans q5⟩) ?_
    clear hK K
    try simp only [Act.put, lA, lZ, lC]
    refine late_one (i := 9) rfl (by kernel_rfl) ?_
    intro K hK
    refine step_app1 cV 24 (.slice none 0 0) 28 27 Tryz.underlying28 infoLU rfl rfl _ _ rfl W.heap.size v vals (.slice A2 g'.length c2) (.slice A2 g'.length c2) w2.heap.size rfl rfl hA3.own rfl rfl (cell_new0 w2 (.slice A2 g'.length c2) 27) (by omega) (by omega) (Nat.le_trans hWr hc3.size) ?_
    intro v4 w4 ho4 hg4 _
    have hA4 := hA3.add hT3 ho4 hg4 (by decide)
    have hS4 := Lib.hid (And.intro ((cells6 (hA3.keepBlock hg4 ((hc3.block G hGr).trans hzr) (by decide))).2.2.2.1) (And.intro (hA3.keepCell (a := ⟨w.heap.size, 3, none⟩) hg4 hW0 ((hc3.cell (p := ⟨w.heap.size, 3, none⟩) hxr).trans q4)) (And.intro (hA3.keepCell (a := ⟨b, o + k, none⟩) hg4 hb ((hc3.cell (p := ⟨b, o + k, none⟩) hbr').trans q5)) (hA3.keepBlock hg4 ((hc3.block G hGr).trans hzr) (by decide)))))
    obtain ⟨A4, c4, hv4, hL4⟩ := ho4.lat
    rw [List.length_append, List.length_singleton] at hv4
    subst hv4
    try show K _ _
    refine hK.out _ _ (Or.inr ⟨hS4.out.1, hS4.out.2.1, hS4.out.2.2.1⟩) ?_
    clear hK K
    try simp only [Act.put, lA, lZ, lC]
    refine lateT 10 (some 39) rfl rfl ⟨hS4.out.1, hS4.out.2.1, hS4.out.2.2.1⟩ ?_
    try simp only [Act.put, lA, lZ, lC]
    refine late_one (i := 11) rfl (by kernel_rfl) ?_
    intro K hK
    go_simp
    have p3 := hS4.out.1
    have hfr4 : ∀ j, w4.frozen? ⟨G, j, none⟩ = false := fun j => frozen_of_row w4 _ j _ _ hS4.out.2.2.2
    go_simp
    try show K _ _
    refine hK.out _ _ (Or.inl (by decide)) ?_
    clear hK K
    try simp only [Act.put, lA, lZ, lC]
    refine late_done (by kernel_rfl) ?_ _

    have hz5 := heap_setCell_same w4 G 3 _ _ (.slice A4 (vals.length + 1) c4) hS4.out.2.2.2
    have hgs := grown_set (grown_refl w4 G) 3 (.slice A4 (vals.length + 1) c4)
    have hA5 := hA4.far hgs (Typed.of hS4.out.2.2.2) (by decide) (by decide)
    have tt : ∀ {α : Type} {c : α → Value} {t : TypeId} {A : Option Addr} {cap : Nat} {xs : List α}, TAt c t wr A cap xs → t ≠ 27 → t ≠ 30 → TAt c t (w4.setCell ⟨G, 3, none⟩ (.slice A4 (vals.length + 1) c4)) A cap xs := fun h h1 h2 => (((h.below hc2).below (below_alloc w2 _)).far hg4 hA3.own.typed h1).far hgs (fun k e => by cases e; exact Typed.of hS4.out.2.2.2) h2
    have hb5 : Below W.heap.size W (w4.setCell ⟨G, 3, none⟩ (.slice A4 (vals.length + 1) c4)) := ((HHB.out.trans (hc3.mono hWr)).trans (below_ownG hA3.own hg4 (Nat.le_trans hWr hc3.size))).setCell (p := ⟨G, 3, none⟩) hgW _
    have s6 := tt t6 (by decide) (by decide)
    have sB := tt tB (by decide) (by decide)
    have s7 := tt t7 (by decide) (by decide)
    rw [← HT.out] at hA5
    clear hS4 hA4 hA3 hg4 hgs tt hc3 hc2 hb2 hT2 hT3 hBits HT HHB t6 tB t7 q3 q4 q5 hr hzr hL4
    go_wp2_with fail
    go_roundw
    case rel => exact ⟨k + 1, by omega, by go_num, _, _, hz5, hA5, hb5, s6, sB, s7⟩
    case measure => simp [intOf]; omega
   ·obtain rfl : k = z.g.length := by omega
    have hlt' : decide ((z.g.length : Int) < (z.g.length : Nat)) = false := by simp
    have hrx2 := (hbr.block (w.heap.size + 1) hW).trans hrx
    obtain ⟨Av, cv, rfl, l1, l2, l3, hRR⟩ := hr.row
    obtain ⟨y0, y1, y2, y3, y4, y5⟩ := cells6 hzr
    obtain ⟨z0, z1, z2, z3, z4, z5⟩ := cells6 hrx2
    have hfr : ∀ j, wr.frozen? ⟨w.heap.size + 1, j, none⟩ = false := fun j => frozen_of_row wr _ j _ _ hrx2
    rw [List.take_length] at *
    obtain ⟨hz6, hgr6⟩ := set6 hrx2 (.int .i64 z.n) (.slice A6 z.c.length cap6) (.slice B6 z.ids.length capB) (.slice Av z.g.length cv) (.slice A7 z.r.length cap7) (.bool z.bad)
    have hr6 := (hr.far hgr6 (Typed.of hrx2) (by decide) (by decide)).row
    have s6 := t6.far hgr6 (fun k e => by cases e; exact Typed.of hrx2) (by decide)
    have sB := tB.far hgr6 (fun k e => by cases e; exact Typed.of hrx2) (by decide)
    have s7 := t7.far hgr6 (fun k e => by cases e; exact Typed.of hrx2) (by decide)
    have hb6 := HB.out.trans ((hbr.mono HB.out.size).trans (below_of_grown' hgr6 (Nat.le_trans HB.out.size hbr.size) (by omega)))
    clear hr hRR hrx2 t6 tB t7 hgr6 hbr
    go_wp2_with fail
    obtain ⟨Av', cv', ev, m1, m2, m3, mRR⟩ := hr6
    injection ev with e1 _ e2
    subst e1 e2
    generalize ((((((wr.setCell ⟨w.heap.size + 1, 0, none⟩ (.int .i64 z.n)).setCell ⟨w.heap.size + 1, 1, none⟩ (.slice A6 z.c.length cap6)).setCell ⟨w.heap.size + 1, 2, none⟩ (.slice B6 z.ids.length capB)).setCell ⟨w.heap.size + 1, 3, none⟩ (.slice Av z.g.length cv)).setCell ⟨w.heap.size + 1, 4, none⟩ (.slice A7 z.r.length cap7)).setCell ⟨w.heap.size + 1, 5, none⟩ (.bool z.bad)) = W6 at *
    obtain ⟨j0, j1, j2, j3, j4, j5⟩ := cells6 hz6
    refine bodyPost_ret (v := .agg #[.int .i64 z.n, .slice A6 z.c.length cap6, .slice B6 z.ids.length capB, .slice Av z.g.length cv, .slice A7 z.r.length cap7, .bool z.bad]) (by simp [results, Tryz.results16, go_sem, j0, j1, j2, j3, j4, j5]) rfl ?_
    exact ⟨_, rfl, ⟨A6, B6, Av, A7, cap6, capB, cv, cap7, rfl, ⟨s6.at_.row, sB.at_.row, mRR, s7.at_.row, ⟨s6.at_.len, s6.at_.most, s6.at_.nil⟩, ⟨sB.at_.len, sB.at_.most, sB.at_.nil⟩, ⟨m1, m2, m3⟩, ⟨s7.at_.len, s7.at_.most, s7.at_.nil⟩⟩⟩, hb6⟩
 ·obtain ⟨hz9, hgr⟩ := set6 hz7 (.int .i64 z.n) (.slice A6 z.c.length cap6) (.slice none 0 0) (.slice none 0 0) (.slice A7 z.r.length cap7) (.bool z.bad)
  have hb9 := hg7.trans (below_of_grown' hgr hg7.size hs7)
  have hL6' := hL67.far hgr (fun k e => by cases e; exact Typed.of hz7) (by decide)
  have hL7' := hL7.far hgr (fun k e => by cases e; exact Typed.of hz7) (by decide)
  have hgW : W.heap.size ≤ w6.heap.size := hs7
  clear z0 z1 z2 z3 z4 z5 hfr hne7 hz7 hL67 hL7 hL6 hg7 hb7 hg6 hb6
  generalize ((((((w7.setCell ⟨w6.heap.size, 0, none⟩ (.int .i64 z.n)).setCell ⟨w6.heap.size, 1, none⟩ (.slice A6 z.c.length cap6)).setCell ⟨w6.heap.size, 2, none⟩ (.slice none 0 0)).setCell ⟨w6.heap.size, 3, none⟩ (.slice none 0 0)).setCell ⟨w6.heap.size, 4, none⟩ (.slice A7 z.r.length cap7)).setCell ⟨w6.heap.size, 5, none⟩ (.bool z.bad)) = W9 at *
  generalize hG : w6.heap.size = G at *
  clear hG hs7
  obtain ⟨y0, y1, y2, y3, y4, y5⟩ := cells6 hz9
  have hGl : G < W9.heap.size := (Array.getElem?_eq_some_iff.1 hz9).1
  have hxl : w.heap.size < W9.heap.size := Nat.lt_of_lt_of_le hW0 hb9.size
  have x2' := (hb9.cell (p := ⟨w.heap.size, 2, none⟩) hW0).trans x2
  have hI9 := HC2.out.ids.below (Nat.le_refl _) hb9
  have hcB := HC2.out.cB
  have hI0 : OwnG (fun x => [cI x]) 3 1 W9 W9.heap.size (.slice none 0 0) [] := OwnG.nil _ _
  have hli := hk.li
  unfold MAXF at hli
  go_wp2_with (at_builtin; refine wpList_append_came (fun x => [cI x]) 1 8 (.int .i64 0) 23 3 Tryz.underlying23 infoInt rfl (by decide) (fun _ => rfl) rfl (.tmp 17) (.tmp 19) rfl W9.heap.size _ [] z.ids rfl hI0 B z.ids.length kB rfl rfl hcB.2.2 hI9.news hcB.1 (by unfold maxLen; simp; omega) (by simp; omega) (Nat.le_refl _) (fun x _ u hu => by simp at hu; subst hu; rfl) ?_; intro v10 w10 ho10 hg10 _; have hb10 := below_ownG hI0 hg10 (Nat.le_refl _); obtain ⟨B6, capB, rfl, hLB⟩ := ho10.tat; have hz10 := (hb10.block G hGl).trans hz9; obtain ⟨y0', y1', y2', y3', y4', y5'⟩ := cells6 hz10; have hfr10 := (fun j => frozen_of_row w10 _ j _ _ hz10); clear ho10 hg10)
  have hz11 : (w10.setCell ⟨G, 2, none⟩ (.slice B6 z.ids.length capB)).heap[G]? = some (.cells #[.int .i64 z.n, .slice A6 z.c.length cap6, .slice B6 z.ids.length capB, .slice none 0 0, .slice A7 z.r.length cap7, .bool z.bad] 30 (0, 0)) := heap_setCell_same w10 G 2 _ _ _ hz10
  have hgs := grown_set (grown_refl w10 G) 2 (.slice B6 z.ids.length capB)
  have hb11 := (hb9.trans (hb10.mono hb9.size)).setCell (p := ⟨G, 2, none⟩) hgW (.slice B6 z.ids.length capB)
  have hL6n := (hL6'.below hb10).far hgs (fun k e => by cases e; exact Typed.of hz10) (by decide)
  have hL7n := (hL7'.below hb10).far hgs (fun k e => by cases e; exact Typed.of hz10) (by decide)
  have hLBn := hLB.far hgs (fun k e => by cases e; exact Typed.of hz10) (by decide)
  clear hz10 y0' y1' y2' y3' y4' y5' hfr10 hgs hL6' hL7' hLB hb10 hb9 hz9 y0 y1 y2 y3 y4 y5 hGl hxl x2' hI9 hcB hI0 hli Q1 Q2 hd0 x0 x1 x2 x4 x5
  generalize w10.setCell ⟨G, 2, none⟩ (.slice B6 z.ids.length capB) = W1 at *
  have hlg := hk.lg
  unfold MAXG at hlg
  have hG0 : GAcc cU 46 27 W.heap.size W1 (.slice none 0 0) [] (z.g.take 0) := GAcc.nil _ _ _ _ _
  go_loopw [4] (fun i wr => ∃ k : Nat, k ≤ z.g.length ∧ i = .int .i64 (k : Nat) ∧ ∃ (v : Value) (vals : List Value), wr.heap[G]? = some (.cells #[.int .i64 z.n, .slice A6 z.c.length cap6, .slice B6 z.ids.length capB, v, .slice A7 z.r.length cap7, .bool z.bad] 30 (0, 0)) ∧ GAcc cU 46 27 W.heap.size wr v vals (z.g.take k) ∧ Below W.heap.size W wr ∧ TAt cU 46 wr A6 cap6 z.c ∧ TAt cI 3 wr B6 capB z.ids ∧ TAt cU 46 wr A7 cap7 z.r) (fun i _ => z.g.length - (intOf i).toNat)
  case atStart => exact ⟨0, Nat.zero_le _, rfl, _, _, hz11, hG0, hb11, hL6n, hLBn, hL7n⟩
  case round =>
   obtain ⟨k, hk', rfl, v, vals, hzr, hr, hbr, t6, tB, t7⟩ := hrel
   clear hG0 hz11 hb11 hL6n hL7n hLBn
   have q4 := (hbr.cell (p := ⟨w.heap.size, 3, none⟩) hW0).trans x3
   by_cases hlt : k < z.g.length
   ·have hlt' : (k : Int) < (z.g.length : Int) := by omega
    obtain ⟨g', hg0⟩ := get_some z.g k hlt
    obtain ⟨b, o, rfl, hb, B', cap', q5, hcap', hcm', hg'⟩ := HC2.out.g.at hbr k g' hg0
    obtain ⟨_, _, _, q3, _, _⟩ := cells6 hzr
    have hGr : G < wr.heap.size := (Array.getElem?_eq_some_iff.1 hzr).1
    have hxr : w.heap.size < wr.heap.size := Nat.lt_of_lt_of_le hW0 hbr.size
    have hbr' : b < wr.heap.size := Nat.lt_of_lt_of_le hb hbr.size
    have hvl : vals.length ≤ k := by rw [hr.len]; exact List.length_take_le _ _
    have hBits := fun w1 (h : Below wr.heap.size wr w1) => Bits_t w1 B' g'.length cap' g' (hg'.below (Nat.le_refl _) h) rfl (hk.g g' (List.mem_of_getElem? hg0)).2
    have hWr := hbr.size
    have HT := Lib.hid (take_more z.g k g' hg0)
    have HHB := Lib.hid hbr
    clear hg0 hg' hbr
    go_wp2_with fail
    refine late_begin (fun w' => w'.cell? ⟨G, 3, none⟩ = some v ∧ w'.cell? ⟨w.heap.size, 3, none⟩ = some (.slice (some ⟨b, o, none⟩) z.g.length kC) ∧ w'.cell? ⟨b, o + k, none⟩ = some (.slice B' g'.length cap')) [11] (by kernel_rfl) ?_
    refine lateT 0 (some 29) rfl rfl ⟨q3, q4, q5⟩ ?_
    try simp only [Act.put, lA, lZ, lC]
    refine lateT 1 (some 30) rfl rfl ⟨q3, q4, q5⟩ ?_
    try simp only [Act.put, lA, lZ, lC]
    refine lateT 2 (some 31) rfl rfl ⟨q3, q4, q5⟩ ?_
    try simp only [Act.put, lA, lZ, lC]
    refine lateT 3 (some 32) rfl rfl ⟨q3, q4, q5⟩ ?_
    try simp only [Act.put, lA, lZ, lC]
    refine lateT 4 (some 33) rfl rfl ⟨q3, q4, q5⟩ ?_
    try simp only [Act.put, lA, lZ, lC]
    refine lateT 5 (some 34) rfl rfl ⟨q3, q4, q5⟩ ?_
    try simp only [Act.put, lA, lZ, lC]
    refine lateT 6 (some 35) rfl rfl ⟨q3, q4, q5⟩ ?_
    try simp only [Act.put, lA, lZ, lC]
    refine late_one (i := 7) rfl (by kernel_rfl) ?_
    intro K hK
    go_simp
    refine (hBits _ (Below.refl _ wr).drew).mono ?_
    rintro e w2 ⟨A2, c2, rfl, hT2, hb2⟩
    have hc2 := (Below.refl _ wr).drew.trans hb2
    try show K _ _
    refine hK.out _ _ (Or.inr ⟨(hc2.cell (p := ⟨G, 3, none⟩) hGr).trans q3, (hc2.cell (p := ⟨w.heap.size, 3, none⟩) hxr).trans q4, (hc2.cell (p := ⟨b, o + k, none⟩) hbr').trans q5⟩) ?_
    clear hK K
    try simp only [Act.put, lA, lZ, lC]
    refine late_one (i := 8) rfl (by kernel_rfl) ?_
    intro K hK
    go_simp
    have hc3 := hc2.alloc hc2.size (.cells #[.slice A2 g'.length c2] 27)
    have hA3 := (hr.below hc2).below (below_alloc w2 (.cells #[.slice A2 g'.length c2] 27))
    have hT3 := hT2.below (below_alloc w2 (.cells #[.slice A2 g'.length c2] 27))
    try show K _ _
    refine hK.out _ _ (Or.inr ⟨(hc3.cell (p := ⟨G, 3, none⟩) hGr).trans q3, (hc3.cell (p := ⟨w.heap.size, 3, none⟩) hxr).trans q4, (hc3.cell (p := ⟨b, o + k, none⟩) hbr').trans q5⟩) ?_
    clear hK K
    try simp only [Act.put, lA, lZ, lC]
    refine late_one (i := 9) rfl (by kernel_rfl) ?_
    intro K hK
    refine step_app1 cV 24 (.slice none 0 0) 28 27 Tryz.underlying28 infoLU rfl rfl _ _ rfl W.heap.size v vals (.slice A2 g'.length c2) (.slice A2 g'.length c2) w2.heap.size rfl rfl hA3.own rfl rfl (cell_new0 w2 (.slice A2 g'.length c2) 27) (by omega) (by omega) (Nat.le_trans hWr hc3.size) ?_
    intro v4 w4 ho4 hg4 _
    have hA4 := hA3.add hT3 ho4 hg4 (by decide)
    have hS4 := Lib.hid (And.intro ((cells6 (hA3.keepBlock hg4 ((hc3.block G hGr).trans hzr) (by decide))).2.2.2.1) (And.intro (hA3.keepCell (a := ⟨w.heap.size, 3, none⟩) hg4 hW0 ((hc3.cell (p := ⟨w.heap.size, 3, none⟩) hxr).trans q4)) (And.intro (hA3.keepCell (a := ⟨b, o + k, none⟩) hg4 hb ((hc3.cell (p := ⟨b, o + k, none⟩) hbr').trans q5)) (hA3.keepBlock hg4 ((hc3.block G hGr).trans hzr) (by decide)))))
    obtain ⟨A4, c4, hv4, hL4⟩ := ho4.lat
    rw [List.length_append, List.length_singleton] at hv4
    subst hv4
    try show K _ _
    refine hK.out _ _ (Or.inr ⟨hS4.out.1, hS4.out.2.1, hS4.out.2.2.1⟩) ?_
    clear hK K
    try simp only [Act.put, lA, lZ, lC]
    refine lateT 10 (some 39) rfl rfl ⟨hS4.out.1, hS4.out.2.1, hS4.out.2.2.1⟩ ?_
    try simp only [Act.put, lA, lZ, lC]
    refine late_one (i := 11) rfl (by kernel_rfl) ?_
    intro K hK
    go_simp
    have p3 := hS4.out.1
    have hfr4 : ∀ j, w4.frozen? ⟨G, j, none⟩ = false := fun j => frozen_of_row w4 _ j _ _ hS4.out.2.2.2
    go_simp
    try show K _ _
    refine hK.out _ _ (Or.inl (by decide)) ?_
    clear hK K
    try simp only [Act.put, lA, lZ, lC]
    refine late_done (by kernel_rfl) ?_ _

    have hz5 := heap_setCell_same w4 G 3 _ _ (.slice A4 (vals.length + 1) c4) hS4.out.2.2.2
    have hgs := grown_set (grown_refl w4 G) 3 (.slice A4 (vals.length + 1) c4)
    have hA5 := hA4.far hgs (Typed.of hS4.out.2.2.2) (by decide) (by decide)
    have tt : ∀ {α : Type} {c : α → Value} {t : TypeId} {A : Option Addr} {cap : Nat} {xs : List α}, TAt c t wr A cap xs → t ≠ 27 → t ≠ 30 → TAt c t (w4.setCell ⟨G, 3, none⟩ (.slice A4 (vals.length + 1) c4)) A cap xs := fun h h1 h2 => (((h.below hc2).below (below_alloc w2 _)).far hg4 hA3.own.typed h1).far hgs (fun k e => by cases e; exact Typed.of hS4.out.2.2.2) h2
    have hb5 : Below W.heap.size W (w4.setCell ⟨G, 3, none⟩ (.slice A4 (vals.length + 1) c4)) := ((HHB.out.trans (hc3.mono hWr)).trans (below_ownG hA3.own hg4 (Nat.le_trans hWr hc3.size))).setCell (p := ⟨G, 3, none⟩) hgW _
    have s6 := tt t6 (by decide) (by decide)
    have sB := tt tB (by decide) (by decide)
    have s7 := tt t7 (by decide) (by decide)
    rw [← HT.out] at hA5
    clear hS4 hA4 hA3 hg4 hgs tt hc3 hc2 hb2 hT2 hT3 hBits HT HHB t6 tB t7 q3 q4 q5 hr hzr hL4
    go_wp2_with fail
    go_roundw
    case rel => exact ⟨k + 1, by omega, by go_num, _, _, hz5, hA5, hb5, s6, sB, s7⟩
    case measure => simp [intOf]; omega
   ·obtain rfl : k = z.g.length := by omega
    have hlt' : decide ((z.g.length : Int) < (z.g.length : Nat)) = false := by simp
    have hrx2 := (hbr.block (w.heap.size + 1) hW).trans hrx
    obtain ⟨Av, cv, rfl, l1, l2, l3, hRR⟩ := hr.row
    obtain ⟨y0, y1, y2, y3, y4, y5⟩ := cells6 hzr
    obtain ⟨z0, z1, z2, z3, z4, z5⟩ := cells6 hrx2
    have hfr : ∀ j, wr.frozen? ⟨w.heap.size + 1, j, none⟩ = false := fun j => frozen_of_row wr _ j _ _ hrx2
    rw [List.take_length] at *
    obtain ⟨hz6, hgr6⟩ := set6 hrx2 (.int .i64 z.n) (.slice A6 z.c.length cap6) (.slice B6 z.ids.length capB) (.slice Av z.g.length cv) (.slice A7 z.r.length cap7) (.bool z.bad)
    have hr6 := (hr.far hgr6 (Typed.of hrx2) (by decide) (by decide)).row
    have s6 := t6.far hgr6 (fun k e => by cases e; exact Typed.of hrx2) (by decide)
    have sB := tB.far hgr6 (fun k e => by cases e; exact Typed.of hrx2) (by decide)
    have s7 := t7.far hgr6 (fun k e => by cases e; exact Typed.of hrx2) (by decide)
    have hb6 := HB.out.trans ((hbr.mono HB.out.size).trans (below_of_grown' hgr6 (Nat.le_trans HB.out.size hbr.size) (by omega)))
    clear hr hRR hrx2 t6 tB t7 hgr6 hbr
    go_wp2_with fail
    obtain ⟨Av', cv', ev, m1, m2, m3, mRR⟩ := hr6
    injection ev with e1 _ e2
    subst e1 e2
    generalize ((((((wr.setCell ⟨w.heap.size + 1, 0, none⟩ (.int .i64 z.n)).setCell ⟨w.heap.size + 1, 1, none⟩ (.slice A6 z.c.length cap6)).setCell ⟨w.heap.size + 1, 2, none⟩ (.slice B6 z.ids.length capB)).setCell ⟨w.heap.size + 1, 3, none⟩ (.slice Av z.g.length cv)).setCell ⟨w.heap.size + 1, 4, none⟩ (.slice A7 z.r.length cap7)).setCell ⟨w.heap.size + 1, 5, none⟩ (.bool z.bad)) = W6 at *
    obtain ⟨j0, j1, j2, j3, j4, j5⟩ := cells6 hz6
    refine bodyPost_ret (v := .agg #[.int .i64 z.n, .slice A6 z.c.length cap6, .slice B6 z.ids.length capB, .slice Av z.g.length cv, .slice A7 z.r.length cap7, .bool z.bad]) (by simp [results, Tryz.results16, go_sem, j0, j1, j2, j3, j4, j5]) rfl ?_
    exact ⟨_, rfl, ⟨A6, B6, Av, A7, cap6, capB, cv, cap7, rfl, ⟨s6.at_.row, sB.at_.row, mRR, s7.at_.row, ⟨s6.at_.len, s6.at_.most, s6.at_.nil⟩, ⟨sB.at_.len, sB.at_.most, sB.at_.nil⟩, ⟨m1, m2, m3⟩, ⟨s7.at_.len, s7.at_.most, s7.at_.nil⟩⟩⟩, hb6⟩
 ·obtain ⟨hz9, hgr⟩ := set6 hz7 (.int .i64 z.n) (.slice A6 z.c.length cap6) (.slice none 0 0) (.slice none 0 0) (.slice A7 z.r.length cap7) (.bool z.bad)
  have hb9 := hg7.trans (below_of_grown' hgr hg7.size hs6)
  have hL6' := hL67.far hgr (fun k e => by cases e; exact Typed.of hz7) (by decide)
  have hL7' := hL7.far hgr (fun k e => by cases e; exact Typed.of hz7) (by decide)
  have hgW : W.heap.size ≤ W.heap.size := hs6
  clear z0 z1 z2 z3 z4 z5 hfr hne7 hz7 hz6 hL67 hL7 hL6 hg7 hb7 hg6 hb6
  generalize ((((((w7.setCell ⟨W.heap.size, 0, none⟩ (.int .i64 z.n)).setCell ⟨W.heap.size, 1, none⟩ (.slice A6 z.c.length cap6)).setCell ⟨W.heap.size, 2, none⟩ (.slice none 0 0)).setCell ⟨W.heap.size, 3, none⟩ (.slice none 0 0)).setCell ⟨W.heap.size, 4, none⟩ (.slice A7 z.r.length cap7)).setCell ⟨W.heap.size, 5, none⟩ (.bool z.bad)) = W9 at *
  clear hs6
  obtain ⟨y0, y1, y2, y3, y4, y5⟩ := cells6 hz9
  have hGl : W.heap.size < W9.heap.size := (Array.getElem?_eq_some_iff.1 hz9).1
  have hxl : w.heap.size < W9.heap.size := Nat.lt_of_lt_of_le hW0 hb9.size
  have x2' := (hb9.cell (p := ⟨w.heap.size, 2, none⟩) hW0).trans x2
  have hI9 := HC2.out.ids.below (Nat.le_refl _) hb9
  have hcB := HC2.out.cB
  have hI0 : OwnG (fun x => [cI x]) 3 1 W9 W9.heap.size (.slice none 0 0) [] := OwnG.nil _ _
  have hli := hk.li
  unfold MAXF at hli
  go_wp2_with (at_builtin; refine wpList_append_came (fun x => [cI x]) 1 8 (.int .i64 0) 23 3 Tryz.underlying23 infoInt rfl (by decide) (fun _ => rfl) rfl (.tmp 17) (.tmp 19) rfl W9.heap.size _ [] z.ids rfl hI0 B z.ids.length kB rfl rfl hcB.2.2 hI9.news hcB.1 (by unfold maxLen; simp; omega) (by simp; omega) (Nat.le_refl _) (fun x _ u hu => by simp at hu; subst hu; rfl) ?_; intro v10 w10 ho10 hg10 _; have hb10 := below_ownG hI0 hg10 (Nat.le_refl _); obtain ⟨B6, capB, rfl, hLB⟩ := ho10.tat; have hz10 := (hb10.block W.heap.size hGl).trans hz9; obtain ⟨y0', y1', y2', y3', y4', y5'⟩ := cells6 hz10; have hfr10 := (fun j => frozen_of_row w10 _ j _ _ hz10); clear ho10 hg10)
  have hz11 : (w10.setCell ⟨W.heap.size, 2, none⟩ (.slice B6 z.ids.length capB)).heap[W.heap.size]? = some (.cells #[.int .i64 z.n, .slice A6 z.c.length cap6, .slice B6 z.ids.length capB, .slice none 0 0, .slice A7 z.r.length cap7, .bool z.bad] 30 (0, 0)) := heap_setCell_same w10 W.heap.size 2 _ _ _ hz10
  have hgs := grown_set (grown_refl w10 W.heap.size) 2 (.slice B6 z.ids.length capB)
  have hb11 := (hb9.trans (hb10.mono hb9.size)).setCell (p := ⟨W.heap.size, 2, none⟩) hgW (.slice B6 z.ids.length capB)
  have hL6n := (hL6'.below hb10).far hgs (fun k e => by cases e; exact Typed.of hz10) (by decide)
  have hL7n := (hL7'.below hb10).far hgs (fun k e => by cases e; exact Typed.of hz10) (by decide)
  have hLBn := hLB.far hgs (fun k e => by cases e; exact Typed.of hz10) (by decide)
  clear hz10 y0' y1' y2' y3' y4' y5' hfr10 hgs hL6' hL7' hLB hb10 hb9 hz9 y0 y1 y2 y3 y4 y5 hGl hxl x2' hI9 hcB hI0 hli Q1 Q2 hd0 x0 x1 x2 x4 x5
  generalize w10.setCell ⟨W.heap.size, 2, none⟩ (.slice B6 z.ids.length capB) = W1 at *
  have hlg := hk.lg
  unfold MAXG at hlg
  have hG0 : GAcc cU 46 27 W.heap.size W1 (.slice none 0 0) [] (z.g.take 0) := GAcc.nil _ _ _ _ _
  go_loopw [4] (fun i wr => ∃ k : Nat, k ≤ z.g.length ∧ i = .int .i64 (k : Nat) ∧ ∃ (v : Value) (vals : List Value), wr.heap[W.heap.size]? = some (.cells #[.int .i64 z.n, .slice A6 z.c.length cap6, .slice B6 z.ids.length capB, v, .slice A7 z.r.length cap7, .bool z.bad] 30 (0, 0)) ∧ GAcc cU 46 27 W.heap.size wr v vals (z.g.take k) ∧ Below W.heap.size W wr ∧ TAt cU 46 wr A6 cap6 z.c ∧ TAt cI 3 wr B6 capB z.ids ∧ TAt cU 46 wr A7 cap7 z.r) (fun i _ => z.g.length - (intOf i).toNat)
  case atStart => exact ⟨0, Nat.zero_le _, rfl, _, _, hz11, hG0, hb11, hL6n, hLBn, hL7n⟩
  case round =>
   obtain ⟨k, hk', rfl, v, vals, hzr, hr, hbr, t6, tB, t7⟩ := hrel
   clear hG0 hz11 hb11 hL6n hL7n hLBn
   have q4 := (hbr.cell (p := ⟨w.heap.size, 3, none⟩) hW0).trans x3
   by_cases hlt : k < z.g.length
   ·have hlt' : (k : Int) < (z.g.length : Int) := by omega
    obtain ⟨g', hg0⟩ := get_some z.g k hlt
    obtain ⟨b, o, rfl, hb, B', cap', q5, hcap', hcm', hg'⟩ := HC2.out.g.at hbr k g' hg0
    obtain ⟨_, _, _, q3, _, _⟩ := cells6 hzr
    have hGr : W.heap.size < wr.heap.size := (Array.getElem?_eq_some_iff.1 hzr).1
    have hxr : w.heap.size < wr.heap.size := Nat.lt_of_lt_of_le hW0 hbr.size
    have hbr' : b < wr.heap.size := Nat.lt_of_lt_of_le hb hbr.size
    have hvl : vals.length ≤ k := by rw [hr.len]; exact List.length_take_le _ _
    have hBits := fun w1 (h : Below wr.heap.size wr w1) => Bits_t w1 B' g'.length cap' g' (hg'.below (Nat.le_refl _) h) rfl (hk.g g' (List.mem_of_getElem? hg0)).2
    have hWr := hbr.size
    have HT := Lib.hid (take_more z.g k g' hg0)
    have HHB := Lib.hid hbr
    clear hg0 hg' hbr
    go_wp2_with fail
    refine late_begin (fun w' => w'.cell? ⟨W.heap.size, 3, none⟩ = some v ∧ w'.cell? ⟨w.heap.size, 3, none⟩ = some (.slice (some ⟨b, o, none⟩) z.g.length kC) ∧ w'.cell? ⟨b, o + k, none⟩ = some (.slice B' g'.length cap')) [11] (by kernel_rfl) ?_
    refine lateT 0 (some 29) rfl rfl ⟨q3, q4, q5⟩ ?_
    try simp only [Act.put, lA, lZ, lC]
    refine lateT 1 (some 30) rfl rfl ⟨q3, q4, q5⟩ ?_
    try simp only [Act.put, lA, lZ, lC]
    refine lateT 2 (some 31) rfl rfl ⟨q3, q4, q5⟩ ?_
    try simp only [Act.put, lA, lZ, lC]
    refine lateT 3 (some 32) rfl rfl ⟨q3, q4, q5⟩ ?_
    try simp only [Act.put, lA, lZ, lC]
    refine lateT 4 (some 33) rfl rfl ⟨q3, q4, q5⟩ ?_
    try simp only [Act.put, lA, lZ, lC]
    refine lateT 5 (some 34) rfl rfl ⟨q3, q4, q5⟩ ?_
    try simp only [Act.put, lA, lZ, lC]
    refine lateT 6 (some 35) rfl rfl ⟨q3, q4, q5⟩ ?_
    try simp only [Act.put, lA, lZ, lC]
    refine late_one (i := 7) rfl (by kernel_rfl) ?_
    intro K hK
    go_simp
    refine (hBits _ (Below.refl _ wr).drew).mono ?_
    rintro e w2 ⟨A2, c2, rfl, hT2, hb2⟩
    have hc2 := (Below.refl _ wr).drew.trans hb2
    try show K _ _
    refine hK.out _ _ (Or.inr ⟨(hc2.cell (p := ⟨W.heap.size, 3, none⟩) hGr).trans q3, (hc2.cell (p := ⟨w.heap.size, 3, none⟩) hxr).trans q4, (hc2.cell (p := ⟨b, o + k, none⟩) hbr').trans q5⟩) ?_
    clear hK K
    try simp only [Act.put, lA, lZ, lC]
    refine late_one (i := 8) rfl (by kernel_rfl) ?_
    intro K hK
    go_simp
    have hc3 := hc2.alloc hc2.size (.cells #[.slice A2 g'.length c2] 27)
    have hA3 := (hr.below hc2).below (below_alloc w2 (.cells #[.slice A2 g'.length c2] 27))
    have hT3 := hT2.below (below_alloc w2 (.cells #[.slice A2 g'.length c2] 27))
    try show K _ _
    refine hK.out _ _ (Or.inr ⟨(hc3.cell (p := ⟨W.heap.size, 3, none⟩) hGr).trans q3, (hc3.cell (p := ⟨w.heap.size, 3, none⟩) hxr).trans q4, (hc3.cell (p := ⟨b, o + k, none⟩) hbr').trans q5⟩) ?_
    clear hK K
    try simp only [Act.put, lA, lZ, lC]
    refine late_one (i := 9) rfl (by kernel_rfl) ?_
    intro K hK
    refine step_app1 cV 24 (.slice none 0 0) 28 27 Tryz.underlying28 infoLU rfl rfl _ _ rfl W.heap.size v vals (.slice A2 g'.length c2) (.slice A2 g'.length c2) w2.heap.size rfl rfl hA3.own rfl rfl (cell_new0 w2 (.slice A2 g'.length c2) 27) (by omega) (by omega) (Nat.le_trans hWr hc3.size) ?_
    intro v4 w4 ho4 hg4 _
    have hA4 := hA3.add hT3 ho4 hg4 (by decide)
    have hS4 := Lib.hid (And.intro ((cells6 (hA3.keepBlock hg4 ((hc3.block W.heap.size hGr).trans hzr) (by decide))).2.2.2.1) (And.intro (hA3.keepCell (a := ⟨w.heap.size, 3, none⟩) hg4 hW0 ((hc3.cell (p := ⟨w.heap.size, 3, none⟩) hxr).trans q4)) (And.intro (hA3.keepCell (a := ⟨b, o + k, none⟩) hg4 hb ((hc3.cell (p := ⟨b, o + k, none⟩) hbr').trans q5)) (hA3.keepBlock hg4 ((hc3.block W.heap.size hGr).trans hzr) (by decide)))))
    obtain ⟨A4, c4, hv4, hL4⟩ := ho4.lat
    rw [List.length_append, List.length_singleton] at hv4
    subst hv4
    try show K _ _
    refine hK.out _ _ (Or.inr ⟨hS4.out.1, hS4.out.2.1, hS4.out.2.2.1⟩) ?_
    clear hK K
    try simp only [Act.put, lA, lZ, lC]
    refine lateT 10 (some 39) rfl rfl ⟨hS4.out.1, hS4.out.2.1, hS4.out.2.2.1⟩ ?_
    try simp only [Act.put, lA, lZ, lC]
    refine late_one (i := 11) rfl (by kernel_rfl) ?_
    intro K hK
    go_simp
    have p3 := hS4.out.1
    have hfr4 : ∀ j, w4.frozen? ⟨W.heap.size, j, none⟩ = false := fun j => frozen_of_row w4 _ j _ _ hS4.out.2.2.2
    go_simp
    try show K _ _
    refine hK.out _ _ (Or.inl (by decide)) ?_
    clear hK K
    try simp only [Act.put, lA, lZ, lC]
    refine late_done (by kernel_rfl) ?_ _

    have hz5 := heap_setCell_same w4 W.heap.size 3 _ _ (.slice A4 (vals.length + 1) c4) hS4.out.2.2.2
    have hgs := grown_set (grown_refl w4 W.heap.size) 3 (.slice A4 (vals.length + 1) c4)
    have hA5 := hA4.far hgs (Typed.of hS4.out.2.2.2) (by decide) (by decide)
    have tt : ∀ {α : Type} {c : α → Value} {t : TypeId} {A : Option Addr} {cap : Nat} {xs : List α}, TAt c t wr A cap xs → t ≠ 27 → t ≠ 30 → TAt c t (w4.setCell ⟨W.heap.size, 3, none⟩ (.slice A4 (vals.length + 1) c4)) A cap xs := fun h h1 h2 => (((h.below hc2).below (below_alloc w2 _)).far hg4 hA3.own.typed h1).far hgs (fun k e => by cases e; exact Typed.of hS4.out.2.2.2) h2
    have hb5 : Below W.heap.size W (w4.setCell ⟨W.heap.size, 3, none⟩ (.slice A4 (vals.length + 1) c4)) := ((HHB.out.trans (hc3.mono hWr)).trans (below_ownG hA3.own hg4 (Nat.le_trans hWr hc3.size))).setCell (p := ⟨W.heap.size, 3, none⟩) hgW _
    have s6 := tt t6 (by decide) (by decide)
    have sB := tt tB (by decide) (by decide)
    have s7 := tt t7 (by decide) (by decide)
    rw [← HT.out] at hA5
    clear hS4 hA4 hA3 hg4 hgs tt hc3 hc2 hb2 hT2 hT3 hBits HT HHB t6 tB t7 q3 q4 q5 hr hzr hL4
    go_wp2_with fail
    go_roundw
    case rel => exact ⟨k + 1, by omega, by go_num, _, _, hz5, hA5, hb5, s6, sB, s7⟩
    case measure => simp [intOf]; omega
   ·obtain rfl : k = z.g.length := by omega
    have hlt' : decide ((z.g.length : Int) < (z.g.length : Nat)) = false := by simp
    have hrx2 := (hbr.block (w.heap.size + 1) hW).trans hrx
    obtain ⟨Av, cv, rfl, l1, l2, l3, hRR⟩ := hr.row
    obtain ⟨y0, y1, y2, y3, y4, y5⟩ := cells6 hzr
    obtain ⟨z0, z1, z2, z3, z4, z5⟩ := cells6 hrx2
    have hfr : ∀ j, wr.frozen? ⟨w.heap.size + 1, j, none⟩ = false := fun j => frozen_of_row wr _ j _ _ hrx2
    rw [List.take_length] at *
    obtain ⟨hz6, hgr6⟩ := set6 hrx2 (.int .i64 z.n) (.slice A6 z.c.length cap6) (.slice B6 z.ids.length capB) (.slice Av z.g.length cv) (.slice A7 z.r.length cap7) (.bool z.bad)
    have hr6 := (hr.far hgr6 (Typed.of hrx2) (by decide) (by decide)).row
    have s6 := t6.far hgr6 (fun k e => by cases e; exact Typed.of hrx2) (by decide)
    have sB := tB.far hgr6 (fun k e => by cases e; exact Typed.of hrx2) (by decide)
    have s7 := t7.far hgr6 (fun k e => by cases e; exact Typed.of hrx2) (by decide)
    have hb6 := HB.out.trans ((hbr.mono HB.out.size).trans (below_of_grown' hgr6 (Nat.le_trans HB.out.size hbr.size) (by omega)))
    clear hr hRR hrx2 t6 tB t7 hgr6 hbr
    go_wp2_with fail
    obtain ⟨Av', cv', ev, m1, m2, m3, mRR⟩ := hr6
    injection ev with e1 _ e2
    subst e1 e2
    generalize ((((((wr.setCell ⟨w.heap.size + 1, 0, none⟩ (.int .i64 z.n)).setCell ⟨w.heap.size + 1, 1, none⟩ (.slice A6 z.c.length cap6)).setCell ⟨w.heap.size + 1, 2, none⟩ (.slice B6 z.ids.length capB)).setCell ⟨w.heap.size + 1, 3, none⟩ (.slice Av z.g.length cv)).setCell ⟨w.heap.size + 1, 4, none⟩ (.slice A7 z.r.length cap7)).setCell ⟨w.heap.size + 1, 5, none⟩ (.bool z.bad)) = W6 at *
    obtain ⟨j0, j1, j2, j3, j4, j5⟩ := cells6 hz6
    refine bodyPost_ret (v := .agg #[.int .i64 z.n, .slice A6 z.c.length cap6, .slice B6 z.ids.length capB, .slice Av z.g.length cv, .slice A7 z.r.length cap7, .bool z.bad]) (by simp [results, Tryz.results16, go_sem, j0, j1, j2, j3, j4, j5]) rfl ?_
    exact ⟨_, rfl, ⟨A6, B6, Av, A7, cap6, capB, cv, cap7, rfl, ⟨s6.at_.row, sB.at_.row, mRR, s7.at_.row, ⟨s6.at_.len, s6.at_.most, s6.at_.nil⟩, ⟨sB.at_.len, sB.at_.most, sB.at_.nil⟩, ⟨m1, m2, m3⟩, ⟨s7.at_.len, s7.at_.most, s7.at_.nil⟩⟩⟩, hb6⟩
end Go.Proofs.YtpfbgenefjhcjaaGreatDoor
