/- (*Acc).Round, Sum. -/
import Derived.Test.YtopilodakphhgaaDoorTold
import Derived.Test.YtopilodakphhgaaDoorAccWhole
namespace Go.Proofs.YtopilodakphhgaaDoor
set_option linter.unusedVariables false
set_option linter.unusedSimpArgs false
open Go Go.RowKit
set_option maxRecDepth 100000
/-- What is told of M, in the lowest bit's units, turned if neg. -/
def toldB (d : Int) (neg : Bool) (M : Nat) : Nat × Bool :=
  if d < 0 ∨ 2 < d then (0, false) else if M = 0 then (0, true)
  else if d = 0 then finishB true neg (M / 2 ^ shiftOf M + (upN M (shiftOf M)).toNat) (shiftOf M)
  else finishB ((d == 1) != neg) neg (M / 2 ^ shiftOf M + (upF ((d == 1) != neg) M (shiftOf M)).toNat) (shiftOf M)
theorem toldB_bad (d : Int) (neg : Bool) (M : Nat) (h : d < 0 ∨ 2 < d) : toldB d neg M = (0, false) := if_pos h
theorem toldB_zero (d : Int) (neg : Bool) (h : ¬ (d < 0 ∨ 2 < d)) : toldB d neg 0 = (0, true) := by unfold toldB; rw [if_neg h, if_pos rfl]
theorem toldB_near (neg : Bool) (M : Nat) (h : M ≠ 0) : toldB 0 neg M = finishB true neg (M / 2 ^ shiftOf M + (upN M (shiftOf M)).toNat) (shiftOf M) := by
  unfold toldB; rw [if_neg (by omega), if_neg h, if_pos rfl]
theorem toldB_far (d : Int) (neg : Bool) (M : Nat) (h : M ≠ 0) (hd : d = 1 ∨ d = 2) : toldB d neg M = finishB ((d == 1) != neg) neg (M / 2 ^ shiftOf M + (upF ((d == 1) != neg) M (shiftOf M)).toNat) (shiftOf M) := by
  unfold toldB; rw [if_neg (by omega), if_neg h, if_neg (by omega)]
theorem told_any (w : World) (p M : Nat) (d : Int) (neg : Bool) (h : IntIs w p M) (hM : M < B64 ^ 76) (hd1 : -9223372036854775808 ≤ d) (hd2 : d ≤ 9223372036854775807) :
    Calls Tryd.prog 35 #[.int .i64 d, .bool neg, .pointer (Option.some ⟨p, 0, none⟩), .int .i64 (-2212), .bool false] w fun e w' => e = .returned (.tuple #[.float .f64 (toldB d neg M).1, .bool (toldB d neg M).2]) ∧ Below w.heap.size w w' := by
  by_cases hb : d < 0 ∨ 2 < d
  · rw [toldB_bad d neg M hb]
    exact (told_bad w p d neg hb hd1 hd2 _).mono fun e w' ⟨he, hw⟩ => ⟨he, by rw [hw]; exact Below.refl _ _⟩
  · by_cases h0 : M = 0
    · subst h0
      rw [toldB_zero d neg hb]
      exact (told_zero w p d neg (by omega) (by omega) _ h).mono fun e w' ⟨he, hw⟩ => ⟨he, by rw [hw]; exact Below.refl _ _⟩
    · have hp : 0 < M := by omega
      have hl := isLen_blen M
      have hd : d = 0 ∨ d = 1 ∨ d = 2 := by omega
      rcases hd with rfl | rfl | rfl
      · rw [toldB_near neg M h0]
        exact told_near w p M (shiftOf M) (blen M) neg h hp hM hl rfl
      · rw [toldB_far 1 neg M h0 (Or.inl rfl)]
        cases neg
        · exact told_1_false w p M (shiftOf M) (blen M) h hp hM hl rfl
        · exact told_1_true w p M (shiftOf M) (blen M) h hp hM hl rfl
      · rw [toldB_far 2 neg M h0 (Or.inr rfl)]
        cases neg
        · exact told_2_false w p M (shiftOf M) (blen M) h hp hM hl rfl
        · exact told_2_true w p M (shiftOf M) (blen M) h hp hM hl rfl
def roundS (d : Int) : Option Int → Nat × Bool
  | none => (0, false)
  | some x => toldB d (decide (x < 0)) x.natAbs
set_option maxHeartbeats 1000000 in
theorem round_any (w : World) (b : Nat) (d : Int) (s : Option Int) (h : AccIs w b s) (hd1 : -9223372036854775808 ≤ d) (hd2 : d ≤ 9223372036854775807) :
    Calls Tryd.prog 20 #[.pointer (Option.some ⟨b, 0, none⟩), .int .i64 d] w fun e w' => e = .returned (.tuple #[.float .f64 (roundS d s).1, .bool (roundS d s).2]) ∧ Below w.heap.size w w' := by
  cases s with
  | none =>
    have hb : AccAt w b 0 true := h
    have hbad := hb.bad
    clear hb h
    go_enter Tryd.func20, Tryd.ntmps20
    go_wp2_with fail
    go_ret2
    exact ⟨rfl, Below.refl _ _⟩
  | some x =>
    have hbad := h.1.bad
    have ht := TOP_LIM
    have hx := h.2
    have hneg := neg_any w b (enc x) false h.1 (enc_lt x)
    rw [isNeg_enc x (by omega)] at hneg
    have hwh := whole_any w b (enc x) h.1 (enc_lt x)
    rw [absX_enc x (by omega)] at hwh
    have HT : ∀ (w1 : World) (p : Nat), IntIs w1 p x.natAbs → Calls Tryd.prog 35 #[.int .i64 d, .bool (decide (x < 0)), .pointer (Option.some ⟨p, 0, none⟩), .int .i64 (-2212), .bool false] w1 fun e w' => e = .returned (.tuple #[.float .f64 (roundS d (some x)).1, .bool (roundS d (some x)).2]) ∧ Below w1.heap.size w1 w' :=
      fun w1 p hI => told_any w1 p x.natAbs d (decide (x < 0)) hI (show x.natAbs < TOP by omega) hd1 hd2
    generalize decide (x < 0) = sg at *
    generalize roundS d (some x) = res at *
    clear hx h ht
    go_enter Tryd.func20, Tryd.ntmps20
    go_wp2_with fail
    refine hneg.mono ?_
    rintro e w1 ⟨rfl, rfl⟩
    go_wp2_with fail
    refine hwh.mono ?_
    rintro e w1 ⟨⟨p, hp, rfl, hI⟩, hb1⟩
    have H := HT w1 p hI
    clear HT hI hneg hwh
    go_wp2_with fail
    refine H.mono ?_
    rintro e w2 ⟨rfl, hb2⟩
    go_wp2_with fail
    go_ret2
    exact ⟨rfl, hb1.trans (hb2.mono hb1.size)⟩
theorem LIM_pos : 0 < LIM := LIM_eq ▸ Nat.mul_pos (Bpow_pos 74) (by decide)
def sumS (us : List Nat) : Option Int := us.foldl addS (some 0)
theorem sumS_step (us : List Nat) (k u : Nat) (h : us[k]? = some u) : sumS (us.take (k + 1)) = addS (sumS (us.take k)) u := by
  unfold sumS
  rw [List.take_add_one, h, Option.toList_some, List.foldl_append]
  rfl
/-- A row of floats, 'us' from its first place on. -/
def FRow (w : World) (A : Option Addr) (us : List Nat) : Prop :=
  us = [] ∨ ∃ (g : Nat) (cs : Array Value) (T : TypeId), A = Option.some ⟨g, 0, none⟩ ∧ w.heap[g]? = Option.some (.cells cs T (0, 0)) ∧ ∀ j u : Nat, us[j]? = some u → cs[j]? = some (Value.float .f64 u) ∧ u < B64
set_option maxHeartbeats 1000000 in
theorem sum_any (w : World) (d : Int) (A : Option Addr) (cap : Nat) (us : List Nat) (h : FRow w A us) (hl : us.length ≤ 1000000) (hd1 : -9223372036854775808 ≤ d) (hd2 : d ≤ 9223372036854775807) :
    Calls Tryd.prog 8 #[.int .i64 d, .slice A us.length cap] w fun e w' => e = .returned (.tuple #[.float .f64 (roundS d (sumS us)).1, .bool (roundS d (sumS us)).2]) ∧ Below w.heap.size w w' := by
  obtain ⟨n, hn⟩ : ∃ n, us.length = n := ⟨_, rfl⟩
  rw [hn]
  have HN := Lib.hid hn
  have hnl : n ≤ 1000000 := by omega
  clear hl hn
  go_enter Tryd.func8, Tryd.ntmps8
  go_wp2_with fail
  refine (new_any w).mono ?_
  rintro e w1 ⟨rfl, rfl⟩
  have ha0 : AccIs (w.alloc (.cells (accCells 0 false) 62)) w.heap.size (some 0) := ⟨heap_alloc_new w _, LIM_pos⟩
  have hb0 : Below w.heap.size w (w.alloc (.cells (accCells 0 false) 62)) := (Below.refl _ _).alloc (Nat.le_refl _) _
  generalize w.alloc (.cells (accCells 0 false) 62) = w1 at *
  go_wp2_with fail
  go_loopw [12] (fun kk wr => ∃ k : Nat, k ≤ n ∧ kk = .int .i64 (k : Nat) ∧ AccIs wr w.heap.size (sumS (us.take k)) ∧ Below w.heap.size w wr) (fun kk _ => n - (intOf kk).toNat)
  case atStart => exact ⟨0, by omega, rfl, ha0, hb0⟩
  case round =>
    obtain ⟨k, hk, rfl, ha, hb⟩ := hrel
    clear ha0 hb0
    by_cases hlt : k < n
    · have hlt' : (k : Int) < n := by omega
      obtain ⟨u, hu⟩ : ∃ u, us[k]? = some u := ⟨us[k]'(by have := HN.out; omega), List.getElem?_eq_getElem _⟩
      have hstep := sumS_step us k u hu
      obtain rfl | ⟨g, cs, T, rfl, hg, hv⟩ := h
      · simp at hu
      have hgl := (Array.getElem?_eq_some_iff.1 hg).1
      have hc : wr.cell? ⟨g, k, none⟩ = some (.float .f64 u) := by
        rw [cell_of_row wr g k _ _ _ ((hb.block g hgl).trans hg)]
        exact (hv k u hu).1
      have hul := (hv k u hu).2
      clear hv
      go_wp2_with fail
      refine (add_any wr w.heap.size u _ ha hul).mono ?_
      rintro e w2 ⟨rfl, ha2, hg2⟩
      rw [← hstep] at ha2
      have hb2 := hb.trans (below_row hg2 (Nat.le_refl _) hb.size)
      go_wp2_with fail
      go_roundw
      case rel => exact ⟨k + 1, by omega, by go_num, ha2, hb2⟩
      case measure => simp [intOf]; omega
    · obtain rfl : k = n := by omega
      have hlt' : decide ((k : Int) < (k : Nat)) = false := by simp
      rw [show us.take k = us by rw [← HN.out]; exact List.take_length] at ha
      go_wp2_with fail
      refine (round_any wr w.heap.size d _ ha hd1 hd2).mono ?_
      rintro e w2 ⟨rfl, hb2⟩
      go_wp2_with fail
      go_ret2
      exact ⟨rfl, hb.trans (hb2.mono hb.size)⟩
end Go.Proofs.YtopilodakphhgaaDoor
