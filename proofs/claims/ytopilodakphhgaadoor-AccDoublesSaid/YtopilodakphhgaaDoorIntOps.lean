/- math/big's Int: Sign, Rsh, Lsh, Sub, Cmp, Bit 0, NewInt 1, Uint64, SetUint64. -/
import Derived.Test.YtopilodakphhgaaDoorNatCmp
import Derived.Deep.RegionWith
namespace Go.Proofs.YtopilodakphhgaaDoor
set_option linter.unusedVariables false
set_option linter.unusedSimpArgs false
open Go Go.RowKit
set_option maxRecDepth 100000
/-- A new Int. -/
def IntNew (w : World) (p : Nat) : Prop := w.heap[p]? = Option.some (.cells #[.bool false, .slice none 0 0] 86 (0, 0))
/-- .. of which the row of words lies from block lo on. -/
def IntIsN (lo : Nat) (w : World) (p M : Nat) : Prop := ∃ A n cap, w.heap[p]? = Option.some (.cells #[.bool false, .slice A n cap] 86 (0, 0)) ∧ NatIs w A n cap M ∧ ∀ a, A = Option.some a → lo ≤ a.block
theorem IntIsN.int {lo : Nat} {w : World} {p M : Nat} (h : IntIsN lo w p M) : IntIs w p M := by
  obtain ⟨A, n, cap, h1, h2, _⟩ := h
  exact ⟨A, n, cap, h1, h2⟩
theorem natIs_len {w : World} {A : Option Addr} {n cap M K : Nat} (h : NatIs w A n cap M) (hM : M < B64 ^ K) : n ≤ K := by
  refine Nat.le_of_not_lt fun hlt => ?_
  have h1 := h.1.2 (by omega)
  have h2 := Nat.pow_le_pow_right B64_pos (show K ≤ n - 1 by omega)
  omega
theorem below_drew1 (w : World) : Below w.heap.size w w.drew := ⟨rfl, rfl, rfl, Nat.le_refl _, fun _ _ => rfl⟩
/-- What a method that sets a new Int has, ahead of its stores. -/
def IntRet (w w2 : World) (p : Nat) (B : Option Addr) (k c M : Nat) : Prop := Below w.heap.size w w2 ∧ NatIs w2 B k c M
theorem IntRet.cells {w w2 : World} {p k c M : Nat} {B : Option Addr} (h : IntRet w w2 p B k c M) (hp : IntNew w p) : w2.cell? ⟨p, 0, none⟩ = Option.some (.bool false) ∧ w2.cell? ⟨p, 1, none⟩ = Option.some (.slice none 0 0) ∧ w2.frozen? ⟨p, 0, none⟩ = false ∧ w2.frozen? ⟨p, 1, none⟩ = false :=
  int_cells ((h.1.block p (Array.getElem?_eq_some_iff.1 hp).1).trans hp)
theorem IntRet.set {w w2 : World} {p k c M : Nat} {B : Option Addr} (h : IntRet w w2 p B k c M) (hp : IntNew w p) :
    IntIs ((w2.setCell ⟨p, 1, none⟩ (.slice B k c)).setCell ⟨p, 0, none⟩ (.bool false)) p M ∧ w.grownBy ((w2.setCell ⟨p, 1, none⟩ (.slice B k c)).setCell ⟨p, 0, none⟩ (.bool false)) (Option.some p) := int_set hp h.1 h.2
theorem IntRet.setN {w w2 : World} {p k c M : Nat} {B : Option Addr} (h : IntRet w w2 p B k c M) (hp : IntNew w p) (hnew : NewRow w B) :
    IntIsN w.heap.size ((w2.setCell ⟨p, 1, none⟩ (.slice B k c)).setCell ⟨p, 0, none⟩ (.bool false)) p M ∧ w.grownBy ((w2.setCell ⟨p, 1, none⟩ (.slice B k c)).setCell ⟨p, 0, none⟩ (.bool false)) (Option.some p) := by
  have hp2 : w2.heap[p]? = Option.some (.cells #[.bool false, .slice none 0 0] 86 (0, 0)) := (h.1.block p (Array.getElem?_eq_some_iff.1 hp).1).trans hp
  have h1 := heap_setCell_same w2 p 1 _ _ (.slice B k c) hp2
  have h2 := heap_setCell_same _ p 0 _ _ (.bool false) h1
  refine ⟨⟨B, k, c, h2, h.2.other hp2 (fun k hk hne => ?_), hnew⟩, grown_set (grown_set (grown_of_below h.1) 1 _) 0 _⟩
  rw [heap_setCell_other _ ⟨p, 0, none⟩ k _ hne, heap_setCell_other _ ⟨p, 1, none⟩ k _ hne]
set_option maxHeartbeats 1000000 in
theorem int_rsh (w : World) (p q M s K : Nat) (hp : IntNew w p) (h : IntIs w q M) (hs1 : 1 ≤ s) (hs : s ≤ 50000) (hM : M < B64 ^ K) (hK : K ≤ 50000) :
    Calls Tryd.prog 48 #[.pointer (Option.some ⟨p, 0, none⟩), .pointer (Option.some ⟨q, 0, none⟩), .int .u64 (s : Nat)] w fun e w' => e = .returned (.pointer (Option.some ⟨p, 0, none⟩)) ∧ IntIsN w.heap.size w' p (M / 2 ^ s) ∧ w.grownBy w' (Option.some p) := by
  obtain ⟨A, n, cap, hq, hn⟩ := h
  obtain ⟨c0, c1, f0, f1⟩ := int_cells hp
  obtain ⟨d0, d1, _, _⟩ := int_cells hq
  go_enter Tryd.func48, Tryd.ntmps48
  go_wp2_with fail
  have hlen := natIs_len hn hM
  have hp' : w.heap.size > p := (Array.getElem?_eq_some_iff.1 hp).1
  have HR : ∀ w2 : World, Below w.heap.size w w2 → Calls Tryd.prog 68 #[.slice none 0 0, .slice A n cap, .int .u64 (s : Nat)] w2 fun e w' => ∃ B k c, e = .returned (.slice B k c) ∧ IntRet w w' p B k c (M / 2 ^ s) ∧ NewRow w B := fun w2 hb => by
    refine (rsh_nil w2 A n cap M s (hn.below hb) hs1 hs (by omega)).mono ?_
    rintro e w' ⟨⟨B, k, c, he, hk, hnew⟩, hb'⟩
    exact ⟨B, k, c, he, ⟨hb.trans (hb'.mono hb.size), hk⟩, fun a ha => Nat.le_trans hb.size (hnew a ha)⟩
  have H := HR w.drew (below_drew1 w)
  clear HR hn hM
  go_region_with (go_at_call 68; refine H.mono ?_; rintro e w2 ⟨B, k, c, rfl, hr, hnew⟩; obtain ⟨e0, e1, g0, g1⟩ := hr.cells hp; have fin := Lib.hid (hr.setN hp hnew); clear hr hnew)
  all_goals go_wp2_with fail
  all_goals go_ret
  all_goals exact ⟨rfl, fin.out⟩
set_option maxHeartbeats 1000000 in
theorem int_lsh (w : World) (p q M s K : Nat) (hp : IntNew w p) (h : IntIs w q M) (hs1 : s = 0 → 0 < M) (hs : s ≤ 50000) (hM : M < B64 ^ K) (hK : K ≤ 50000) :
    Calls Tryd.prog 50 #[.pointer (Option.some ⟨p, 0, none⟩), .pointer (Option.some ⟨q, 0, none⟩), .int .u64 (s : Nat)] w fun e w' => e = .returned (.pointer (Option.some ⟨p, 0, none⟩)) ∧ IntIs w' p (M * 2 ^ s) ∧ w.grownBy w' (Option.some p) := by
  obtain ⟨A, n, cap, hq, hn⟩ := h
  obtain ⟨c0, c1, f0, f1⟩ := int_cells hp
  obtain ⟨d0, d1, _, _⟩ := int_cells hq
  have hlen := natIs_len hn hM
  have hn0 : s = 0 → 0 < n := fun e => by
    have h1 := hs1 e
    have h2 := hn.1.1
    refine Nat.pos_of_ne_zero fun hz => ?_
    rw [hz, Nat.pow_zero] at h2
    omega
  have hql : q < w.heap.size := (Array.getElem?_eq_some_iff.1 hq).1
  have HR : ∀ w2 : World, Below w.heap.size w w2 → Calls Tryd.prog 71 #[.slice none 0 0, .slice A n cap, .int .u64 (s : Nat)] w2 fun e w' => ∃ B k c, e = .returned (.slice B k c) ∧ IntRet w w' p B k c (M * 2 ^ s) := fun w2 hb => by
    refine (lsh_nil w2 A n cap M s (hn.below hb) hs (by omega) hn0).mono ?_
    rintro e w' ⟨⟨B, k, c, he, hk⟩, hb'⟩
    exact ⟨B, k, c, he, hb.trans (hb'.mono hb.size), hk⟩
  have H := HR w.drew (below_drew1 w)
  go_enter Tryd.func50, Tryd.ntmps50
  go_wp2_with fail
  clear HR hn hM hn0 hs1
  go_region_with (go_at_call 71; refine H.mono ?_; rintro e w2 ⟨B, k, c, rfl, hr⟩; obtain ⟨e0, e1, g0, g1⟩ := hr.cells hp; obtain ⟨i0, _, _, _⟩ := int_cells ((hr.1.block q hql).trans hq); have fin := Lib.hid (hr.set hp); clear hr)
  all_goals go_wp2_with fail
  all_goals go_ret
  all_goals exact ⟨rfl, fin.out⟩
end Go.Proofs.YtopilodakphhgaaDoor
