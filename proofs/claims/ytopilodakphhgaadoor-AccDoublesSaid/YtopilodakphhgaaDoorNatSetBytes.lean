/- (nat).setBytes of 608 bytes, into a new row. -/
import Derived.Test.YtopilodakphhgaaDoorNatBytes
namespace Go.Proofs.YtopilodakphhgaaDoor
set_option linter.unusedVariables false
set_option linter.unusedSimpArgs false
open Go Go.RowKit
set_option maxRecDepth 100000
theorem ByteRow.below {w w1 : World} {g X B : Nat} (h : ByteRow w g X) (hg : g < B) (hb : Below B w w1) : ByteRow w1 g X := by
  obtain ⟨cur, hc, hv⟩ := h
  exact ⟨cur, (hb.block g hg).trans hc, hv⟩
/-- A nat in memory, the value '.slice A n cap': nil, or a row of n words; M is its value, n just so many as M has. -/
def NatIs (w : World) (A : Option Addr) (n cap M : Nat) : Prop :=
  NormLen n M ∧ ((n = 0 ∧ A = none ∧ cap = 0) ∨ ∃ g, A = Option.some ⟨g, 0, none⟩ ∧ n ≤ cap ∧ cap ≤ 1000000 ∧ Vec w g cap 0 n (wd M))
theorem NatIs.below {w w1 : World} {A : Option Addr} {n cap M : Nat} (h : NatIs w A n cap M) (hb : Below w.heap.size w w1) : NatIs w1 A n cap M := by
  refine ⟨h.1, ?_⟩
  rcases h.2 with h | ⟨g, h1, h2, h3, h4⟩
  · exact Or.inl h
  · exact Or.inr ⟨g, h1, h2, h3, h4.below hb⟩
/-- A big.Int in memory: not below 0. -/
def IntIs (w : World) (p M : Nat) : Prop := ∃ A n cap, w.heap[p]? = Option.some (.cells #[.bool false, .slice A n cap] 86 (0, 0)) ∧ NatIs w A n cap M
theorem Vec.ne_int {w : World} {g cap lo hi p : Nat} {F : Nat → Nat} {cs : Array Value} (h : Vec w g cap lo hi F) (hp : w.heap[p]? = Option.some (.cells cs 86 (0, 0))) : g ≠ p := by
  rintro rfl
  obtain ⟨cur, hc, _⟩ := h
  rw [hc] at hp
  injection hp with hp
  injection hp with _ hp
  cases hp
theorem NatIs.other {w w1 : World} {A : Option Addr} {n cap M p : Nat} {cs : Array Value} (h : NatIs w A n cap M) (hp : w.heap[p]? = Option.some (.cells cs 86 (0, 0))) (hb : ∀ k, k < w.heap.size → k ≠ p → w1.heap[k]? = w.heap[k]?) : NatIs w1 A n cap M := by
  refine ⟨h.1, ?_⟩
  rcases h.2 with h | ⟨g, h1, h2, h3, h4⟩
  · exact Or.inl h
  · exact Or.inr ⟨g, h1, h2, h3, h4.heap (hb g h4.lt (h4.ne_int hp))⟩
theorem IntIs.below {w w1 : World} {p M : Nat} (h : IntIs w p M) (hb : Below w.heap.size w w1) : IntIs w1 p M := by
  obtain ⟨A, n, cap, hp, hn⟩ := h
  exact ⟨A, n, cap, (hb.block p (Array.getElem?_eq_some_iff.1 hp).1).trans hp, hn.below hb⟩
theorem IntIs.lt {w : World} {p M : Nat} (h : IntIs w p M) : p < w.heap.size := by
  obtain ⟨A, n, cap, hp, hn⟩ := h
  exact (Array.getElem?_eq_some_iff.1 hp).1
/-- Another big.Int's cells are written. -/
theorem IntIs.grown {w w1 : World} {p q M : Nat} {cs : Array Value} (h : IntIs w p M) (hq : w.heap[q]? = Option.some (.cells cs 86 (0, 0))) (hg : w.grownBy w1 (Option.some q)) (hpq : p ≠ q) : IntIs w1 p M := by
  obtain ⟨A, n, cap, hp, hn⟩ := h
  exact ⟨A, n, cap, (hg.block p (Array.getElem?_eq_some_iff.1 hp).1 (fun e => hpq (by injection e))).trans hp, hn.other hq (fun k hk hne => hg.block k hk (fun e => hne (by injection e)))⟩
set_option maxHeartbeats 2000000 in
theorem setBytes_nil (w : World) (g X : Nat) (h : ByteRow w g X) (hX : X < TOP) (hg : g < w.heap.size) :
    Calls Tryd.prog 75 #[.slice none 0 0, .slice (Option.some ⟨g, 0, none⟩) 608 608] w fun e w' => (∃ A n cap, e = .returned (.slice A n cap) ∧ NatIs w' A n cap X) ∧ Below w.heap.size w w' := by
  go_enter Tryd.func75, Tryd.ntmps75
  go_wp2_with fail
  refine (make_nil 76 (by decide) (by decide) _).mono ?_
  rintro e w1 ⟨cap, hc1, hc2, rfl, rfl⟩
  go_wp2_with fail
  go_loopw [5, 6] (fun i kk wr => ∃ k : Nat, k ≤ 76 ∧ kk = .int .i64 k ∧ i = .int .i64 (608 - 8 * (k : Int)) ∧ Vec wr w.heap.size cap 0 k (wd X) ∧ Below w.heap.size w wr ∧ w.heap.size < wr.heap.size) (fun _ kk _ => 76 - (intOf kk).toNat)
  case atStart => exact ⟨0, by omega, rfl, rfl, (Vec.made w cap).weaken (Nat.le_refl _) (Nat.zero_le _) (fun j _ hj => absurd hj (Nat.not_lt_zero j)), (Below.refl _ _).alloc (Nat.le_refl _) _, by simp⟩
  case round =>
    obtain ⟨k, hk, rfl, rfl, hv, hb, hsz⟩ := hrel
    by_cases hlt : k < 76
    · obtain ⟨v0, hcell⟩ := hv.some k (by omega)
      have hfz := hv.free k
      have hB := h.below hg hb
      have ho : (608 - 8 * (k : Int) - 8).toNat = 600 - 8 * k := by omega
      go_wp2_with fail
      rw [show 608 - 8 * k - (600 - 8 * k) = 8 by omega]
      refine (bew _ g X k (600 - 8 * k) _ hB hlt rfl).mono ?_
      rintro e w2 ⟨rfl, hb2⟩
      have hv2 := hv.below hb2
      obtain ⟨v1, hcell2⟩ := hv2.some k (by omega)
      have hfz2 := hv2.free k
      have hstep : Vec (w2.setCell ⟨w.heap.size, k, none⟩ (.int .u64 (wd X k : Nat))) w.heap.size cap 0 (k + 1) (wd X) :=
        hv2.set k (wd X k) (by omega) rfl (fun j _ hj hne => ⟨Nat.zero_le _, by omega, rfl⟩)
      have hbelow : Below w.heap.size w (w2.setCell ⟨w.heap.size, k, none⟩ (.int .u64 (wd X k : Nat))) :=
        below_of_grown (grown_set (grown_of_below (hb.trans (hb2.mono hb.size))) k _) (Nat.le_refl _)
      have hs2 := hb2.size
      have hsz2 : w.heap.size < (w2.setCell ⟨w.heap.size, k, none⟩ (.int .u64 (wd X k : Nat))).heap.size := by
        rw [show (w2.setCell ⟨w.heap.size, k, none⟩ (.int .u64 (wd X k : Nat))).heap.size = w2.heap.size by simp [World.setCell]]; omega
      have HB := Lib.hid hbelow
      have HS := Lib.hid hsz2
      clear hcell hfz hbelow hsz2 hs2 hb hb2 hsz
      go_wp2_with fail
      go_roundw
      case rel => exact ⟨k + 1, by omega, by go_num, by go_num, hstep, HB.out, HS.out⟩
      case measure => simp [intOf]; omega
    · obtain rfl : k = 76 := by omega
      go_wp2_with fail
      refine (norm_row _ w.heap.size 76 cap X hv hX hc1 (by omega)).mono ?_
      rintro e w2 ⟨⟨n, hn, hnorm, rfl⟩, rfl⟩
      go_wp2_with fail
      go_ret
      exact ⟨⟨_, n, cap, rfl, hnorm, Or.inr ⟨w.heap.size, rfl, by omega, by omega, hv.weaken (Nat.le_refl _) hn (fun _ _ _ => rfl)⟩⟩, hb⟩
theorem int_cells {w : World} {p : Nat} {a b : Value} (h : w.heap[p]? = Option.some (.cells #[a, b] 86 (0, 0))) : w.cell? ⟨p, 0, none⟩ = Option.some a ∧ w.cell? ⟨p, 1, none⟩ = Option.some b ∧ w.frozen? ⟨p, 0, none⟩ = false ∧ w.frozen? ⟨p, 1, none⟩ = false := by
  refine ⟨?_, ?_, frozen_of_row w p 0 _ _ h, frozen_of_row w p 1 _ _ h⟩
  · rw [cell_of_row w p 0 _ _ _ h]; rfl
  · rw [cell_of_row w p 1 _ _ _ h]; rfl
/-- The end of a method that sets z: abs, then neg. -/
theorem int_set {w w2 : World} {p M n cap : Nat} {A : Option Addr} {v : Value} (h : w.heap[p]? = Option.some (.cells #[.bool false, v] 86 (0, 0))) (hb : Below w.heap.size w w2) (hn : NatIs w2 A n cap M) :
    IntIs ((w2.setCell ⟨p, 1, none⟩ (.slice A n cap)).setCell ⟨p, 0, none⟩ (.bool false)) p M ∧ w.grownBy ((w2.setCell ⟨p, 1, none⟩ (.slice A n cap)).setCell ⟨p, 0, none⟩ (.bool false)) (Option.some p) := by
  have hp2 : w2.heap[p]? = Option.some (.cells #[.bool false, v] 86 (0, 0)) := (hb.block p (Array.getElem?_eq_some_iff.1 h).1).trans h
  have h1 := heap_setCell_same w2 p 1 _ _ (.slice A n cap) hp2
  have h2 := heap_setCell_same _ p 0 _ _ (.bool false) h1
  refine ⟨⟨A, n, cap, h2, hn.other hp2 (fun k hk hne => ?_)⟩, grown_set (grown_set (grown_of_below hb) 1 _) 0 _⟩
  rw [heap_setCell_other _ ⟨p, 0, none⟩ k _ hne, heap_setCell_other _ ⟨p, 1, none⟩ k _ hne]
set_option maxHeartbeats 1000000 in
theorem int_setBytes (w : World) (p g X : Nat) (hp : w.heap[p]? = Option.some (.cells #[.bool false, .slice none 0 0] 86 (0, 0))) (h : ByteRow w g X) (hX : X < TOP) (hg : g < w.heap.size) :
    Calls Tryd.prog 57 #[.pointer (Option.some ⟨p, 0, none⟩), .slice (Option.some ⟨g, 0, none⟩) 608 608] w fun e w' => e = .returned (.pointer (Option.some ⟨p, 0, none⟩)) ∧ IntIs w' p X ∧ w.grownBy w' (Option.some p) := by
  obtain ⟨c0, c1, f0, f1⟩ := int_cells hp
  go_enter Tryd.func57, Tryd.ntmps57
  go_wp2_with fail
  refine (setBytes_nil _ g X h hX hg).mono ?_
  rintro e w2 ⟨⟨A, n, cap, rfl, hn⟩, hb⟩
  obtain ⟨d0, d1, e0, e1⟩ := int_cells ((hb.block p (Array.getElem?_eq_some_iff.1 hp).1).trans hp)
  have fin := Lib.hid (int_set hp hb hn)
  clear c0 c1 f0 f1 hb hn
  go_wp2_with fail
  go_ret
  exact ⟨rfl, fin.out⟩
end Go.Proofs.YtopilodakphhgaaDoor
