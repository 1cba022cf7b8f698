/- ambitref3.Prod, Add: of any Acc of the document's. Dot: acc's, and the document's. ambitlaw3.floats, stand, same. -/
import Derived.Test.YtopilodakphhgaaGreatDoorRefAccs
import Derived.Test.YtopilodakphhgaaGreatDoorRounds
import Derived.StillTailTactics
import Derived.Deep.QuietTactic
import Derived.BigQuiet
namespace Go.Proofs.YtopilodakphhgaaGreatDoor
set_option linter.unusedVariables false
set_option linter.unusedSimpArgs false
open Go Go.RowKit
set_option maxRecDepth 100000
theorem ref3Prod_any (w : World) (ng : Bool) (v : Value) (E : Int) (bad : Bool) (s : Option Int) (a b : Nat) (m : Int) (h : RefAccIs w ng v E bad s) (ha : a < B64) (hb : b < B64) (hm : -9223372036854775808 ≤ m ∧ m ≤ 9223372036854775807) :
    Calls Tryz.prog 47 #[.agg #[.bool ng, v, .int .i64 E, .bool bad], .int .u64 (a : Nat), .int .u64 (b : Nat), .int .i64 m] w fun e w' => TellsAcc w e w' (prodS s a b m) := by
  obtain ⟨⟨A, n, cap, rfl⟩, hs⟩ := h
  cases s with
  | none =>
    have hbad : bad = true := hs
    exact ref3Prod_bad w ng A n cap E bad a b m ha hb hm (Or.inl hbad)
  | some z =>
    obtain ⟨rfl, hn, hz⟩ : bad = false ∧ NumIs w ng (.slice A n cap) E z ∧ z.natAbs < LIM := hs
    unfold prodS
    by_cases hc : fexp a = 2047 ∨ fexp b = 2047 ∨ m < -64 ∨ 64 < m
    · simp only [if_pos hc]
      exact ref3Prod_bad w ng A n cap E false a b m ha hb hm (Or.inr hc)
    · simp only [if_neg hc]
      exact ref3Prod_good w ng A n cap E z a b m ha hb hn hz (fun e => hc (Or.inl e)) (fun e => hc (Or.inr (Or.inl e))) (by omega) (by omega)
theorem RefAccIs.below {w w1 : World} {ng : Bool} {v : Value} {E : Int} {bad : Bool} {s : Option Int} (h : RefAccIs w ng v E bad s) (hb : Below w.heap.size w w1) : RefAccIs w1 ng v E bad s := by
  refine ⟨h.1, ?_⟩
  have h2 := h.2
  revert h2
  cases s with
  | none => exact fun h => h
  | some z => exact fun h => ⟨h.1, h.2.1.below hb, h.2.2⟩
theorem RefAccIs.racc {w w' : World} {ng : Bool} {v : Value} {E : Int} {bad : Bool} {s : Option Int} {g : Nat} {c : Array Value} (h : RefAccIs w ng v E bad s) (hc : w.heap[g]? = some (.cells c 80 (0, 0))) (hg : w.grownBy w' (some g)) : RefAccIs w' ng v E bad s := by
  refine ⟨h.1, ?_⟩
  have h2 := h.2
  revert h2
  cases s with
  | none => exact fun h => h
  | some z => exact fun h => ⟨h.1, h.2.1.racc hc hg, h.2.2⟩
set_option maxHeartbeats 4000000 in
theorem ref3Add_any (w : World) (ng : Bool) (v : Value) (E : Int) (bad : Bool) (s : Option Int) (u : Nat) (h : RefAccIs w ng v E bad s) (hu : u < B64) :
    Calls Tryz.prog 45 #[.agg #[.bool ng, v, .int .i64 E, .bool bad], .int .u64 (u : Nat)] w fun e w' => TellsAcc w e w' (addS s u) := by
  obtain ⟨A, n, cap, rfl⟩ := h.1
  have hb1 := below_alloc w (.cells #[.bool ng, .slice A n cap, .int .i64 E, .bool bad] 80)
  have s1 : (w.alloc (.cells #[.bool ng, .slice A n cap, .int .i64 E, .bool bad] 80)).heap.size = w.heap.size + 1 := by simp
  have hb2 := hb1.trans ((below_alloc (w.alloc (.cells #[.bool ng, .slice A n cap, .int .i64 E, .bool bad] 80)) (.cells #[.bool false, .slice none 0 0, .int .i64 0, .bool false] 80)).mono (by simp))
  have hr0 := heap_alloc_new (w.alloc (.cells #[.bool ng, .slice A n cap, .int .i64 E, .bool bad] 80)) (.cells #[.bool false, .slice none 0 0, .int .i64 0, .bool false] 80)
  have hx0 := ((below_alloc (w.alloc (.cells #[.bool ng, .slice A n cap, .int .i64 E, .bool bad] 80)) (.cells #[.bool false, .slice none 0 0, .int .i64 0, .bool false] 80)).block w.heap.size (by rw [s1]; omega)).trans (heap_alloc_new w (.cells #[.bool ng, .slice A n cap, .int .i64 E, .bool bad] 80))
  have s2 : ((w.alloc (.cells #[.bool ng, .slice A n cap, .int .i64 E, .bool bad] 80)).alloc (.cells #[.bool false, .slice none 0 0, .int .i64 0, .bool false] 80)).heap.size = w.heap.size + 2 := by simp
  rw [s1] at hr0
  have hul : (u : Int) ≤ 18446744073709551615 := by unfold B64 at hu; omega
  have hpr := fun (w' : World) hb => ref3Prod_any w' ng (.slice A n cap) E bad s u 4607182418800017408 0 (h.below (w1 := w') hb) hu (by decide) ⟨by decide, by decide⟩
  clear h s1 hb1
  go_enter Tryz.func45, Tryz.ntmps45
  go_wp2_with fail
  generalize (w.alloc (.cells #[.bool ng, .slice A n cap, .int .i64 E, .bool bad] 80)).alloc (.cells #[.bool false, .slice none 0 0, .int .i64 0, .bool false] 80) = W2 at *
  refine (hpr W2 hb2).mono ?_
  rintro e w3 ⟨nh, vh, Eh, bh, rfl, hh3, b3⟩
  obtain ⟨Ah, ch, kh, rfl⟩ := hh3.1
  have q3 := (b3.block (w.heap.size + 1) (by omega)).trans hr0
  have c3 := hb2.trans (b3.mono hb2.size)
  obtain ⟨y0, y1, y2, y3⟩ := cells4 q3
  have hfr3 : ∀ j, w3.frozen? ⟨w.heap.size + 1, j, none⟩ = false := fun j => frozen_of_row w3 _ j _ _ q3
  clear hpr hr0 hx0 b3 hb2
  go_wp2_with fail
  obtain ⟨hg9, hgr9⟩ := set4 q3 (.bool nh) (.slice Ah ch kh) (.int .i64 Eh) (.bool bh)
  have hh9 := hh3.racc q3 hgr9
  have hb9 := c3.trans (below_of_grown' hgr9 c3.size (by omega))
  generalize (((w3.setCell ⟨w.heap.size + 1, 0, none⟩ (.bool nh)).setCell ⟨w.heap.size + 1, 1, none⟩ (.slice Ah ch kh)).setCell ⟨w.heap.size + 1, 2, none⟩ (.int .i64 Eh)).setCell ⟨w.heap.size + 1, 3, none⟩ (.bool bh) = W9 at *
  obtain ⟨j0, j1, j2, j3⟩ := cells4 hg9
  refine bodyPost_ret (v := .agg #[.bool nh, .slice Ah ch kh, .int .i64 Eh, .bool bh]) (by simp [results, Tryz.results45, go_sem, j0, j1, j2, j3]) rfl ?_
  exact ⟨_, _, _, _, rfl, hh9, hb9⟩
/-- The Acc of the document's that a loop turns: its block g, made behind w. -/
def AccBlk (w wr : World) (g : Nat) (s : Option Int) : Prop :=
  ∃ (ng : Bool) (A : Option Addr) (n cap : Nat) (E : Int) (bad : Bool), wr.heap[g]? = some (.cells #[.bool ng, .slice A n cap, .int .i64 E, .bool bad] 80 (0, 0)) ∧ RefAccIs wr ng (.slice A n cap) E bad s ∧ Below w.heap.size w wr ∧ w.heap.size ≤ g
theorem AccBlk.new (w : World) : AccBlk w (w.alloc (.cells #[.bool false, .slice none 0 0, .int .i64 0, .bool false] 80)) w.heap.size (some 0) := by
  refine ⟨false, none, 0, 0, 0, false, heap_alloc_new w _, ⟨⟨_, _, _, rfl⟩, rfl, ?_, LIM_pos⟩, below_alloc w _, Nat.le_refl _⟩
  rw [NumIs.def']
  refine ⟨0, Or.inl ⟨rfl, rfl⟩, fun _ => rfl, by decide, by decide, ?_, ?_⟩
  · generalize (400 : Nat) = k
    exact W32_pow k
  · rw [Nat.zero_mul]
    rfl
/-- A store of an Acc that a call told into the block. -/
theorem AccBlk.put {w wr w3 : World} {g : Nat} {s s' : Option Int} {nh : Bool} {Ah : Option Addr} {ch kh : Nat} {Eh : Int} {bh : Bool} {b0 b1 b2 b3 : Value} (hq : w3.heap[g]? = some (.cells #[b0, b1, b2, b3] 80 (0, 0))) (hb : Below w.heap.size w w3) (hg : w.heap.size ≤ g) (hh : RefAccIs w3 nh (.slice Ah ch kh) Eh bh s') :
    AccBlk w ((((w3.setCell ⟨g, 0, none⟩ (.bool nh)).setCell ⟨g, 1, none⟩ (.slice Ah ch kh)).setCell ⟨g, 2, none⟩ (.int .i64 Eh)).setCell ⟨g, 3, none⟩ (.bool bh)) g s' := by
  obtain ⟨hg9, hgr9⟩ := set4 hq (.bool nh) (.slice Ah ch kh) (.int .i64 Eh) (.bool bh)
  exact ⟨nh, Ah, ch, kh, Eh, bh, hg9, hh.racc hq hgr9, hb.trans (below_of_grown' hgr9 hb.size hg), hg⟩
set_option maxHeartbeats 4000000 in
theorem ref3Sum_any (w : World) (d : Int) (A : Option Addr) (cap : Nat) (us : List Nat) (h : LRow w A us) (hl : us.length ≤ 1000000) (hd1 : -9223372036854775808 ≤ d) (hd2 : d ≤ 9223372036854775807) :
    Calls Tryz.prog 23 #[.int .i64 d, .slice A us.length cap] w fun e w' => e = .returned (.tuple #[.int .u64 ((roundS d (sumS us)).1 : Nat), .bool (roundS d (sumS us)).2]) ∧ Below w.heap.size w w' := by
  obtain ⟨n, hn⟩ : ∃ n, us.length = n := ⟨_, rfl⟩
  rw [hn]
  have HN := Lib.hid hn
  have hnl : n ≤ 1000000 := by omega
  clear hl hn
  have ha0 := AccBlk.new w
  go_enter Tryz.func23, Tryz.ntmps23
  go_wp2_with fail
  generalize w.alloc (.cells #[.bool false, .slice none 0 0, .int .i64 0, .bool false] 80) = w1 at *
  go_loopw [7] (fun kk wr => ∃ k : Nat, k ≤ n ∧ kk = .int .i64 (k : Nat) ∧ AccBlk w wr w.heap.size (sumS (us.take k))) (fun kk _ => n - (intOf kk).toNat)
  case atStart => exact ⟨0, by omega, rfl, ha0⟩
  case round =>
    obtain ⟨k, hk, rfl, ng, Ax, nx, cx, Ex, bad, hblk, href, hbw, hge⟩ := hrel
    have hblt := (Array.getElem?_eq_some_iff.1 hblk).1
    clear ha0
    obtain ⟨x0, x1, x2, x3⟩ := cells4 hblk
    by_cases hlt : k < n
    · have hlt' : (k : Int) < n := by omega
      obtain ⟨u, hu⟩ : ∃ u, us[k]? = some u := ⟨us[k]'(by have := HN.out; omega), List.getElem?_eq_getElem _⟩
      have hstep := Lib.hid (sumS_step us k u hu)
      obtain ⟨x, rfl, hcell, huB⟩ := h.cell hbw k u hu
      have hadd := ref3Add_any wr.drew ng (.slice Ax nx cx) Ex bad (sumS (us.take k)) u (href.below (Below.refl _ wr).drew) huB
      go_wp2_with fail
      go_still_tail 5, (by kernel_rfl)
      change wpList _ _ _ _ _ wr.drew
      go_wp2_with fail
      refine hadd.mono ?_
      rintro e w3 ⟨nh, vh, Eh, bh, rfl, hh3, b3⟩
      obtain ⟨Ah, ch, kh, rfl⟩ := hh3.1
      have q3 := (b3.block w.heap.size hblt).trans hblk
      have c3 := hbw.drew.trans (b3.mono hbw.size)
      obtain ⟨y0, y1, y2, y3⟩ := cells4 q3
      have hfr3 : ∀ j, w3.frozen? ⟨w.heap.size, j, none⟩ = false := fun j => frozen_of_row w3 _ j _ _ q3
      clear hadd x0 x1 x2 x3 href hbw hblk
      go_wp2_with fail
      have hput := AccBlk.put (w := w) (s := none) (wr := w) q3 c3 (Nat.le_refl _) hh3
      rw [← hstep.out] at hput
      go_roundw
      case rel => exact ⟨k + 1, by omega, by go_num, hput⟩
      case measure => simp [intOf]; omega
    · obtain rfl : k = n := by omega
      have hlt' : decide ((k : Int) < (k : Nat)) = false := by simp
      rw [show us.take k = us by rw [← HN.out]; exact List.take_length] at href
      have hr := ref3Round_any wr ng (.slice Ax nx cx) Ex bad _ d href hd1 hd2
      go_wp2_with fail
      refine hr.mono ?_
      rintro e w2 ⟨rfl, hb2⟩
      go_wp2_with fail
      go_ret2
      exact ⟨rfl, hbw.trans (hb2.mono hbw.size)⟩
set_option linter.unusedVariables false
set_option linter.unusedSimpArgs false
open Go Go.RowKit
set_option maxRecDepth 100000
/-- The real of the first k products. -/
def dotK (us vs : List Nat) : Nat → Option Int
  | 0 => some 0
  | k + 1 => prodS (dotK us vs k) (us.getD k 0) (vs.getD k 0) 0
theorem dotK_step (us vs : List Nat) (k u v : Nat) (hu : us[k]? = some u) (hv : vs[k]? = some v) : dotK us vs (k + 1) = prodS (dotK us vs k) u v 0 := by
  show prodS (dotK us vs k) (us.getD k 0) (vs.getD k 0) 0 = _
  rw [List.getD_eq_getElem?_getD, List.getD_eq_getElem?_getD, hu, hv, Option.getD_some, Option.getD_some]
set_option maxHeartbeats 4000000 in
theorem dot_any (w : World) (d : Int) (A B : Option Addr) (capa capb n : Nat) (us vs : List Nat) (h : FRow w A us) (h' : FRow w B vs) (hu0 : us.length = n) (hv0 : vs.length = n) (hl : n ≤ 1000000) (hd1 : -9223372036854775808 ≤ d) (hd2 : d ≤ 9223372036854775807) :
    Calls Tryz.prog 24 #[.int .i64 d, .slice A n capa, .slice B n capb] w fun e w' => e = .returned (.tuple #[.float .f64 (roundS d (dotK us vs n)).1, .bool (roundS d (dotK us vs n)).2]) ∧ Below w.heap.size w w' := by
  have HU := Lib.hid hu0
  have HV := Lib.hid hv0
  clear hu0 hv0
  go_enter Tryz.func24, Tryz.ntmps24
  go_wp2_with fail
  refine (new_any w).mono ?_
  rintro e w1 ⟨rfl, rfl⟩
  have ha0 : AccIs (w.alloc (.cells (accCells 0 false) 63)) w.heap.size (some 0) := ⟨heap_alloc_new w _, LIM_pos⟩
  have hb0 : Below w.heap.size w (w.alloc (.cells (accCells 0 false) 63)) := (Below.refl _ _).alloc (Nat.le_refl _) _
  generalize w.alloc (.cells (accCells 0 false) 63) = w1 at *
  go_wp2_with fail
  go_loopw [18] (fun kk wr => ∃ k : Nat, k ≤ n ∧ kk = .int .i64 (k : Nat) ∧ AccIs wr w.heap.size (dotK us vs k) ∧ Below w.heap.size w wr) (fun kk _ => n - (intOf kk).toNat)
  case atStart => exact ⟨0, by omega, rfl, ha0, hb0⟩
  case round =>
    obtain ⟨k, hk, rfl, ha, hb⟩ := hrel
    clear ha0 hb0
    by_cases hlt : k < n
    · have hlt' : (k : Int) < n := by omega
      obtain ⟨u, hu⟩ : ∃ u, us[k]? = some u := ⟨us[k]'(by have := HU.out; omega), List.getElem?_eq_getElem _⟩
      obtain ⟨v, hv⟩ : ∃ v, vs[k]? = some v := ⟨vs[k]'(by have := HV.out; omega), List.getElem?_eq_getElem _⟩
      have hstep := Lib.hid (dotK_step us vs k u v hu hv)
      obtain rfl | ⟨g, cs, T, rfl, hg, hvv⟩ := h
      · simp at hu
      obtain rfl | ⟨g', cs', T', rfl, hg', hvv'⟩ := h'
      · simp at hv
      have hgl := (Array.getElem?_eq_some_iff.1 hg).1
      have hgl' := (Array.getElem?_eq_some_iff.1 hg').1
      have hc : wr.cell? ⟨g, k, none⟩ = some (.float .f64 u) := by
        rw [cell_of_row wr g k _ _ _ ((hb.block g hgl).trans hg)]
        exact (hvv k u hu).1
      have hc' : wr.cell? ⟨g', k, none⟩ = some (.float .f64 v) := by
        rw [cell_of_row wr g' k _ _ _ ((hb.block g' hgl').trans hg')]
        exact (hvv' k v hv).1
      have hul := (hvv k u hu).2
      have hvl := (hvv' k v hv).2
      have hpr := prod_any wr.drew w.heap.size u v 0 _ (ha.heap (w1 := wr.drew) rfl) hul hvl
      clear hvv hvv' hg hg' hu hv
      go_wp2_with fail
      go_still_tail 9, (by kernel_rfl)
      change wpList _ _ _ _ _ wr.drew
      go_wp2_with fail
      refine hpr.mono ?_
      rintro e w2 ⟨rfl, ha2, hg2⟩
      rw [← hstep.out] at ha2
      have hb2 := hb.drew.trans (below_row hg2 (Nat.le_refl _) hb.size)
      go_wp2_with fail
      go_roundw
      case rel => exact ⟨k + 1, by omega, by go_num, ha2, hb2⟩
      case measure => simp [intOf]; omega
    · obtain rfl : k = n := by omega
      have hlt' : decide ((k : Int) < (k : Nat)) = false := by simp
      go_wp2_with fail
      refine (round_any wr w.heap.size d _ ha hd1 hd2).mono ?_
      rintro e w2 ⟨rfl, hb2⟩
      go_wp2_with fail
      go_ret2
      exact ⟨rfl, hb.trans (hb2.mono hb.size)⟩
theorem dot_apart (w : World) (d : Int) (A B : Option Addr) (capa capb n m : Nat) (h : n ≠ m) :
    Calls Tryz.prog 24 #[.int .i64 d, .slice A n capa, .slice B m capb] w fun e w' => e = .returned (.tuple #[.float .f64 0, .bool false]) ∧ Below w.heap.size w w' := by
  have hb : ((n : Int) == (m : Int)) = false := by rw [beq_eq_false_iff_ne]; omega
  have hb' : ((n : Int) != (m : Int)) = true := by rw [bne_iff_ne]; omega
  go_enter Tryz.func24, Tryz.ntmps24
  go_wp2_with fail
  go_ret2
  exact ⟨rfl, Below.refl _ _⟩
theorem ref3Dot_apart (w : World) (d : Int) (A B : Option Addr) (capa capb n m : Nat) (h : n ≠ m) :
    Calls Tryz.prog 25 #[.int .i64 d, .slice A n capa, .slice B m capb] w fun e w' => e = .returned (.tuple #[.int .u64 0, .bool false]) ∧ Below w.heap.size w w' := by
  have hb : ((n : Int) == (m : Int)) = false := by rw [beq_eq_false_iff_ne]; omega
  have hb' : ((n : Int) != (m : Int)) = true := by rw [bne_iff_ne]; omega
  go_enter Tryz.func25, Tryz.ntmps25
  go_wp2_with fail
  go_ret2
  exact ⟨rfl, Below.refl _ _⟩
set_option maxHeartbeats 4000000 in
theorem ref3Dot_any (w : World) (d : Int) (A B : Option Addr) (capa capb n : Nat) (us vs : List Nat) (h : LRow w A us) (h' : LRow w B vs) (hu0 : us.length = n) (hv0 : vs.length = n) (hl : n ≤ 1000000) (hd1 : -9223372036854775808 ≤ d) (hd2 : d ≤ 9223372036854775807) :
    Calls Tryz.prog 25 #[.int .i64 d, .slice A n capa, .slice B n capb] w fun e w' => e = .returned (.tuple #[.int .u64 ((roundS d (dotK us vs n)).1 : Nat), .bool (roundS d (dotK us vs n)).2]) ∧ Below w.heap.size w w' := by
  have HU := Lib.hid hu0
  have HV := Lib.hid hv0
  clear hu0 hv0
  have ha0 := AccBlk.new w
  go_enter Tryz.func25, Tryz.ntmps25
  go_wp2_with fail
  generalize w.alloc (.cells #[.bool false, .slice none 0 0, .int .i64 0, .bool false] 80) = w1 at *
  go_loopw [9] (fun kk wr => ∃ k : Nat, k ≤ n ∧ kk = .int .i64 (k : Nat) ∧ AccBlk w wr w.heap.size (dotK us vs k)) (fun kk _ => n - (intOf kk).toNat)
  case atStart => exact ⟨0, by omega, rfl, ha0⟩
  case round =>
    obtain ⟨k, hk, rfl, ng, Ax, nx, cx, Ex, bad, hblk, href, hbw, hge⟩ := hrel
    have hblt := (Array.getElem?_eq_some_iff.1 hblk).1
    clear ha0
    obtain ⟨x0, x1, x2, x3⟩ := cells4 hblk
    by_cases hlt : k < n
    · have hlt' : (k : Int) < n := by omega
      obtain ⟨u, hu⟩ : ∃ u, us[k]? = some u := ⟨us[k]'(by have := HU.out; omega), List.getElem?_eq_getElem _⟩
      obtain ⟨v, hv⟩ : ∃ v, vs[k]? = some v := ⟨vs[k]'(by have := HV.out; omega), List.getElem?_eq_getElem _⟩
      have hstep := Lib.hid (dotK_step us vs k u v hu hv)
      obtain ⟨x, rfl, hcell, huB⟩ := h.cell hbw k u hu
      obtain ⟨y, rfl, hcell', hvB⟩ := h'.cell hbw k v hv
      have hpr := ref3Prod_any wr.drew ng (.slice Ax nx cx) Ex bad (dotK us vs k) u v 0 (href.below (Below.refl _ wr).drew) huB hvB ⟨by decide, by decide⟩
      go_wp2_with fail
      go_still_tail 9, (by kernel_rfl)
      change wpList _ _ _ _ _ wr.drew
      go_wp2_with fail
      refine hpr.mono ?_
      rintro e w3 ⟨nh, vh, Eh, bh, rfl, hh3, b3⟩
      obtain ⟨Ah, ch, kh, rfl⟩ := hh3.1
      have q3 := (b3.block w.heap.size hblt).trans hblk
      have c3 := hbw.drew.trans (b3.mono hbw.size)
      obtain ⟨y0, y1, y2, y3⟩ := cells4 q3
      have hfr3 : ∀ j, w3.frozen? ⟨w.heap.size, j, none⟩ = false := fun j => frozen_of_row w3 _ j _ _ q3
      clear hpr x0 x1 x2 x3 href hbw hblk
      go_wp2_with fail
      have hput := AccBlk.put (w := w) (s := none) (wr := w) q3 c3 (Nat.le_refl _) hh3
      rw [← hstep.out] at hput
      go_roundw
      case rel => exact ⟨k + 1, by omega, by go_num, hput⟩
      case measure => simp [intOf]; omega
    · obtain rfl : k = n := by omega
      have hlt' : decide ((k : Int) < (k : Nat)) = false := by simp
      have hr := ref3Round_any wr ng (.slice Ax nx cx) Ex bad _ d href hd1 hd2
      go_wp2_with fail
      refine hr.mono ?_
      rintro e w2 ⟨rfl, hb2⟩
      go_wp2_with fail
      go_ret2
      exact ⟨rfl, hbw.trans (hb2.mono hbw.size)⟩
set_option linter.unusedVariables false
set_option linter.unusedSimpArgs false
open Go Go.RowKit
set_option maxRecDepth 100000
/-- The mark, -777. -/
def MK : Nat := 13873417816952012800
/-- A row that is made, and what it stands beside. -/
structure FloRel (w wr : World) (vf : Value) (us : List Nat) : Prop where
  f : OwnF wr w.heap.size vf us
  below : Below w.heap.size w wr
theorem FloRel.alloc {w wr : World} {vf : Value} {us : List Nat} (h : FloRel w wr vf us) (o : Obj) : FloRel w (wr.alloc o) vf us :=
  ⟨h.f.kept (World.grownBy_alloc wr o none) (by cases vf.ownBlock <;> simp), h.below.alloc h.below.size _⟩
theorem FloRel.add {w wr w2 : World} {vf vf' : Value} {us us' : List Nat} (h : FloRel w wr vf us) (hf : OwnF w2 w.heap.size vf' us') (hg : wr.grownBy w2 vf.ownBlock) : FloRel w w2 vf' us' :=
  ⟨hf, h.below.trans (below_own h.f hg h.below.size)⟩
/-- A row of floats with nine marks in the room behind them. -/
def Marked (w : World) (g cap : Nat) (ls : List Nat) : Prop :=
  ∃ cur : Array Value, w.heap[g]? = some (.cells cur 38 (0, 0)) ∧ ls.length + 9 ≤ cap ∧ cap ≤ maxLen ∧ ∀ j u : Nat, (ls ++ List.replicate 9 MK)[j]? = some u → cur[j]? = some (.float .f64 u)
theorem Marked.below {w w1 : World} {g cap : Nat} {ls : List Nat} (h : Marked w g cap ls) (hb : Below w.heap.size w w1) : Marked w1 g cap ls := by
  obtain ⟨cur, h1, h2⟩ := h
  exact ⟨cur, (hb.block g (Array.getElem?_eq_some_iff.1 h1).1).trans h1, h2⟩
theorem Marked.row {w : World} {g cap : Nat} {ls : List Nat} (h : Marked w g cap ls) (hB : ∀ u ∈ ls, u < B64) : FRow w (some ⟨g, 0, none⟩) ls := by
  obtain ⟨cur, h1, h2, h3, h4⟩ := h
  refine Or.inr ⟨g, cur, _, rfl, h1, fun j u hj => ⟨h4 j u ?_, hB u (List.mem_of_getElem? hj)⟩⟩
  rw [List.getElem?_append_left (List.getElem?_eq_some_iff.1 hj).1]
  exact hj
theorem Marked.cell {w : World} {g cap : Nat} {ls : List Nat} (h : Marked w g cap ls) (j u : Nat) (hj : ls[j]? = some u) : w.cell? ⟨g, j, none⟩ = some (.float .f64 u) := by
  obtain ⟨cur, h1, h2, h3, h4⟩ := h
  rw [cell_of_row _ _ _ _ _ _ h1]
  refine h4 j u ?_
  rw [List.getElem?_append_left (List.getElem?_eq_some_iff.1 hj).1]
  exact hj
theorem Marked.mark {w : World} {g cap : Nat} {ls : List Nat} (h : Marked w g cap ls) : w.cell? ⟨g, ls.length, none⟩ = some (.float .f64 MK) := by
  obtain ⟨cur, h1, h2, h3, h4⟩ := h
  rw [cell_of_row _ _ _ _ _ _ h1]
  refine h4 _ _ ?_
  rw [List.getElem?_append_right (Nat.le_refl _), Nat.sub_self]
  rfl
theorem Marked.cap {w : World} {g cap : Nat} {ls : List Nat} (h : Marked w g cap ls) : ls.length + 9 ≤ cap ∧ cap ≤ maxLen := by
  obtain ⟨cur, h1, h2, h3, h4⟩ := h
  exact ⟨h2, h3⟩
def TellsFloats (w : World) (n : Nat) (ls : List Nat) (e : Ending) (w' : World) : Prop :=
  ∃ g cap : Nat, e = .returned (.slice (some ⟨g, 0, none⟩) n cap) ∧ Marked w' g cap ls ∧ Below w.heap.size w w'
theorem OwnF.marked {w : World} {base : Nat} {v : Value} {ls : List Nat} (h : OwnF w base v (ls ++ List.replicate 9 MK)) : ∃ g cap, v = .slice (some ⟨g, 0, none⟩) (ls.length + 9) cap ∧ Marked w g cap ls := by
  obtain ⟨rfl, h0⟩ | ⟨g, cap, cur, rfl, hbg, hgg, hnc, hcm, hcs, htake⟩ := h.2
  · simp at h0
  · have hl : (ls ++ List.replicate 9 MK).length = ls.length + 9 := by simp
    rw [hl] at hnc
    refine ⟨g, cap, by rw [hl], cur, hgg, hnc, hcm, fun j u hj => ?_⟩
    have hjl := (List.getElem?_eq_some_iff.1 hj).1
    have h1 : (flts (ls ++ List.replicate 9 MK))[j]? = some (.float .f64 u) := by
      unfold flts
      rw [List.getElem?_map, hj]
      rfl
    rw [← htake, List.getElem?_take_of_lt (by omega), Array.getElem?_toList] at h1
    exact h1
set_option maxHeartbeats 4000000 in
theorem floats_any (w : World) (A : Option Addr) (n cap : Nat) (ls : List Nat) (hrow : LRow w A ls) (hls : ls.length = n) (hn : n ≤ 2000) :
    Calls Tryz.prog 21 #[.slice A n cap] w fun e w' => TellsFloats w n ls e w' := by
  have HL := Lib.hid hls
  have hNn : n ≤ ls.length := by omega
  have hrel0 : FloRel w w (.slice none 0 0) (ls.take 0) := ⟨OwnF.nil _ _, Below.refl _ _⟩
  clear hls
  go_enter Tryz.func21, Tryz.ntmps21
  go_wp2_with fail
  go_loopw [3, 4] (fun vf i wr => ∃ k : Nat, k ≤ n ∧ i = .int .i64 (k : Nat) ∧ FloRel w wr vf (ls.take k)) (fun _ i _ => n - (intOf i).toNat)
  case atStart => exact ⟨0, by omega, rfl, hrel0⟩
  case round =>
    obtain ⟨k, hk, rfl, hr⟩ := hrel
    clear hrel0
    by_cases hlt : k < n
    · have hlt' : (k : Int) < (n : Int) := by omega
      obtain ⟨v, hv⟩ : ∃ v, ls[k]? = some v := ⟨ls[k]'(by omega), List.getElem?_eq_getElem _⟩
      obtain ⟨x, rfl, hcell, hvB⟩ := hrow.cell hr.below k v hv
      have hvl : (v : Int) ≤ 18446744073709551615 := by unfold B64 at hvB; omega
      have hrA := hr.alloc (.cells #[.float .f64 v] 38)
      have hcA : (wr.alloc (.cells #[.float .f64 v] 38)).cell? ⟨wr.heap.size, 0, none⟩ = some (.float .f64 v) := by
        rw [cell_of_row _ _ _ _ _ _ (heap_alloc_new wr _)]; rfl
      have hlen : (ls.take k).length ≤ 1000000 := by rw [List.length_take]; omega
      have hsz := hrA.below.size
      have HV := Lib.hid (take_next ls k v hv)
      have hfl := float_nat v
      clear hr
      go_wp2_with fail
      refine (hfl _).mono ?_
      rintro e w' ⟨rfl, rfl⟩
      go_wp2_with (at_builtin; refine wpList_append_f rfl (.tmp 12) (.tmp 18) rfl w.heap.size _ _ v w'.heap.size 1 rfl rfl hrA.f hcA hlen hsz ?_; intro vf2 w2 hf2 hg2 hw2; have hr2 := hrA.add hf2 hg2; clear hf2 hg2 hw2 hrA hcA hsz)
      go_wp2_with fail
      go_roundw
      case rel => exact ⟨k + 1, by omega, by go_num, by rw [HV.out]; exact hr2⟩
      case measure => simp [intOf]; omega
    · obtain rfl : k = n := by omega
      have hlt' : decide ((k : Int) < (k : Nat)) = false := by simp
      have hr1 : FloRel w wr u3 (ls ++ List.replicate 0 MK) := by
        have h := hr
        rw [show ls.take k = ls by rw [← HL.out]; exact List.take_length] at h
        rw [List.replicate_zero, List.append_nil]
        exact h
      clear hr
      go_wp2_with fail
      go_loopw [3, 5] (fun vf i wr => ∃ m : Nat, m ≤ 9 ∧ i = .int .i64 (m : Nat) ∧ FloRel w wr vf (ls ++ List.replicate m MK)) (fun _ i _ => 9 - (intOf i).toNat)
      case atStart => exact ⟨0, by omega, rfl, hr1⟩
      case round =>
        obtain ⟨m, hm, rfl, hr⟩ := hrel
        clear hr1
        by_cases hmlt : m < 9
        · have hmlt' : (m : Int) < 9 := by omega
          have hrA := hr.alloc (.cells #[.float .f64 13873417816952012800] 38)
          have hcA : (wr.alloc (.cells #[.float .f64 13873417816952012800] 38)).cell? ⟨wr.heap.size, 0, none⟩ = some (.float .f64 13873417816952012800) := by
            rw [cell_of_row _ _ _ _ _ _ (heap_alloc_new wr _)]; rfl
          have hlen : (ls ++ List.replicate m MK).length ≤ 1000000 := by rw [List.length_append, List.length_replicate, HL.out]; omega
          have hsz := hrA.below.size
          have HV : Hid (ls ++ List.replicate (m + 1) MK = (ls ++ List.replicate m MK) ++ [13873417816952012800]) := by
            refine Lib.hid ?_
            rw [List.replicate_succ', List.append_assoc]
            rfl
          clear hr
          go_wp2_with (at_builtin; refine wpList_append_f rfl (.tmp 24) (.tmp 25) rfl w.heap.size _ _ 13873417816952012800 wr.heap.size 1 rfl rfl hrA.f hcA hlen hsz ?_; intro vf2 w2 hf2 hg2 hw2; have hr2 := hrA.add hf2 hg2; clear hf2 hg2 hw2 hrA hcA hsz)
          go_wp2_with fail
          go_roundw
          case rel => exact ⟨m + 1, by omega, by go_num, by rw [HV.out]; exact hr2⟩
          case measure => simp [intOf]; omega
        · obtain rfl : m = 9 := by omega
          obtain ⟨g, capf, rfl, hmk⟩ := hr.f.marked
          have hbel := hr.below
          have hcf := hmk.cap
          have hl2 := HL.out
          have h1 : (k : Int) ≤ (capf : Int) := by omega
          have h2 : (0 : Int) ≤ (k : Int) := by omega
          have HR : Hid (∀ e, e = .returned (.slice (some ⟨g, 0, none⟩) k capf) → TellsFloats w k ls e wr) := Lib.hid fun e he => ⟨g, capf, he, hmk, hbel⟩
          clear hr hmk hbel hl2 hcf
          go_wp2_with fail
          go_ret
          exact HR.out _ rfl
theorem same_any (w : World) (a u : Nat) (ok : Bool) (h : a = u) :
    Calls Tryz.prog 26 #[.float .f64 a, .bool ok, .int .u64 (u : Nat), .bool ok] w fun e w' => e = .returned (.bool true) ∧ w' = w := by
  subst h
  have hb := bits_nat a
  go_enter Tryz.func26, Tryz.ntmps26
  go_wp2_with fail
  refine (hb _).mono ?_
  rintro e w1 ⟨rfl, rfl⟩
  go_wp2_with fail
  go_ret
  cases ok <;> exact ⟨rfl, rfl⟩
set_option maxHeartbeats 4000000 in
theorem stand_any (w : World) (g capf : Nat) (A : Option Addr) (n cap : Nat) (ls : List Nat) (hrow : LRow w A ls) (hmk : Marked w g capf ls) (hls : ls.length = n) (hn : n ≤ 2000) :
    Calls Tryz.prog 27 #[.slice (some ⟨g, 0, none⟩) n capf, .slice A n cap] w fun e w' => e = .returned (.bool true) ∧ Below w.heap.size w w' := by
  have hc := hmk.cap
  have hm := hmk.mark
  rw [hls] at hc hm
  have HL := Lib.hid hls
  have h1 : (n : Int) + 1 ≤ (capf : Int) := by omega
  have h2 : (0 : Int) ≤ (n : Int) + 1 := by omega
  have h3 : (n : Int) < (n : Int) + 1 := by omega
  have ho : (FloatKind.f64.format.order 13873417816952012800 13873417816952012800 == some .eq) = true := by decide +kernel
  have ho2 : FloatKind.f64.format.order 13873417816952012800 13873417816952012800 = some .eq := by decide +kernel
  unfold MK at hm
  have hNn : n ≤ ls.length := by omega
  clear hls hc
  go_enter Tryz.func27, Tryz.ntmps27
  go_wp2_with fail
  clear hm h1 h2 h3 ho ho2
  go_loopw [5] (fun i wr => ∃ k : Nat, k ≤ n ∧ i = .int .i64 (k : Nat) ∧ Below w.heap.size w wr) (fun i _ => n - (intOf i).toNat)
  case atStart => exact ⟨0, by omega, rfl, Below.refl _ _⟩
  case round =>
    obtain ⟨k, hk, rfl, hb⟩ := hrel
    by_cases hlt : k < n
    · have hlt' : (k : Int) < (n : Int) := by omega
      obtain ⟨v, hv⟩ : ∃ v, ls[k]? = some v := ⟨ls[k]'(by omega), List.getElem?_eq_getElem _⟩
      obtain ⟨x, rfl, hcell, hvB⟩ := hrow.cell hb k v hv
      have hc2 := (hmk.below hb).cell k v hv
      have hbt := bits_nat v
      clear hv
      go_wp2_with fail
      go_quiet ((go_at_call 20; exact Calls.quiet_of_same (hbt _)))
      go_wp2_with fail
      go_roundw
      case rel => exact ⟨k + 1, by omega, by go_num, below_drewN' hb _⟩
      case measure => simp [intOf]; omega
    · obtain rfl : k = n := by omega
      have hlt' : decide ((k : Int) < (k : Nat)) = false := by simp
      go_wp2_with fail
      go_ret
      exact ⟨rfl, hb⟩
end Go.Proofs.YtopilodakphhgaaGreatDoor
