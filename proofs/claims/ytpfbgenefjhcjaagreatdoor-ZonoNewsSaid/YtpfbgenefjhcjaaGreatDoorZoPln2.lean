/- zono.plain, of any bits. -/
import Derived.Test.YtpfbgenefjhcjaaGreatDoorPZoLif
namespace Go.Proofs.YtpfbgenefjhcjaaGreatDoor
set_option linter.unusedVariables false
set_option linter.unusedSimpArgs false
open Go Go.RowKit
set_option maxRecDepth 100000
attribute [local go_sem] run_store_flt
/-- What x + 0 makes of a word: of a number that number without its nought's sign; of anything else no number. -/
def PlainR (u v : Nat) : Prop := (fexp u ≠ 2047 ∧ v = plainU u) ∨ (fexp u = 2047 ∧ fexp v = 2047 ∧ v < B64)
theorem PlainR.num {u v : Nat} (h : PlainR u v) : isNum v = isNum u := by
  unfold isNum
  rcases h with ⟨h1, rfl⟩ | ⟨h1, h2, _⟩
  · rw [show (fexp u != 2047) = true from by simp [h1]]
    unfold plainU
    split
    · decide
    · simp [h1]
  · rw [h1, h2]
theorem PlainR.lt {u v : Nat} (h : PlainR u v) (hu : u < B64) : v < B64 := by
  rcases h with ⟨_, rfl⟩ | ⟨_, _, h⟩
  · unfold plainU
    split
    · decide
    · exact hu
  · exact h
/-- Of lists. -/
structure PlainL (us vs : List Nat) : Prop where
  len : vs.length = us.length
  each : ∀ (j u v : Nat), us[j]? = some u → vs[j]? = some v → PlainR u v
theorem PlainL.nil : PlainL [] [] := ⟨rfl, fun j u v h => by simp at h⟩
theorem PlainL.snoc {us vs : List Nat} {u v : Nat} (h : PlainL us vs) (hr : PlainR u v) : PlainL (us ++ [u]) (vs ++ [v]) := by
  refine ⟨by rw [List.length_append, List.length_append, h.len]; rfl, fun j a b ha hb => ?_⟩
  by_cases hj : j < us.length
  · rw [List.getElem?_append_left hj] at ha
    rw [List.getElem?_append_left (by rw [h.len]; exact hj)] at hb
    exact h.each j a b ha hb
  · have hl := (List.getElem?_eq_some_iff.1 ha).1
    rw [List.length_append, List.length_singleton] at hl
    obtain rfl : j = us.length := by omega
    rw [List.getElem?_append_right (Nat.le_refl _), Nat.sub_self] at ha
    rw [List.getElem?_append_right (by rw [h.len]; exact Nat.le_refl _), h.len, Nat.sub_self] at hb
    cases ha
    cases hb
    exact hr
theorem PlainL.small {us vs : List Nat} (h : PlainL us vs) (hs : Small us) : Small vs := fun v hv => by
  obtain ⟨j, hj, rfl⟩ := List.mem_iff_getElem.1 hv
  obtain ⟨u, hu⟩ := get_some us j (by rw [← h.len]; exact hj)
  exact (h.each j u _ hu (List.getElem?_eq_getElem hj)).lt (hs.at j u hu)
theorem PlainL.all {us vs : List Nat} (h : PlainL us vs) : vs.all isNum = us.all isNum := by
  have key : ∀ (n : Nat) (us vs : List Nat), us.length = n → PlainL us vs → vs.all isNum = us.all isNum := by
    intro n
    induction n with
    | zero =>
      intro us vs hn h
      have h1 := List.eq_nil_of_length_eq_zero hn
      have h2 := List.eq_nil_of_length_eq_zero (show vs.length = 0 by rw [h.len]; exact hn)
      rw [h1, h2]
    | succ n ih =>
      intro us vs hn h
      match us, vs, h with
      | [], _, _ => simp at hn
      | _ :: _, [], h => have := h.len; simp at this
      | u :: us, v :: vs, h =>
        have hr := h.each 0 u v rfl rfl
        have ht : PlainL us vs := ⟨by have := h.len; simp at this; exact this, fun j a b ha hb => h.each (j + 1) a b ha hb⟩
        rw [List.all_cons, List.all_cons, hr.num, ih us vs (by simp at hn; exact hn) ht]
  exact key us.length us vs rfl h
theorem PlainL.row {us vs : List Nat} (h : PlainL us vs) (n : Int) : rowD vs n = rowD us n := by
  unfold rowD
  rw [h.all, h.len]
theorem PlainL.eq {us vs : List Nat} (h : PlainL us vs) (hn : ∀ u ∈ us, fexp u ≠ 2047) : vs = us.map plainU := by
  refine List.ext_getElem? fun j => ?_
  rw [List.getElem?_map]
  by_cases hj : j < us.length
  · obtain ⟨u, hu⟩ := get_some us j hj
    obtain ⟨v, hv⟩ := get_some vs j (by rw [h.len]; exact hj)
    rw [hu, hv]
    rcases h.each j u v hu hv with ⟨_, rfl⟩ | ⟨h1, _⟩
    · rfl
    · exact absurd h1 (hn u (List.mem_of_getElem? hu))
  · rw [List.getElem?_eq_none (by rw [h.len]; omega), List.getElem?_eq_none (by omega)]
    rfl
theorem read_infN (u : Nat) (hu : u < B64) (he : fexp u = 2047) : Ieee.double.read u = .infinity (fneg u) ∨ ∃ s t, Ieee.double.read u = .nan s t := by
  have h1 : Ieee.double.signWeight = 9223372036854775808 := by decide
  have h2 : Ieee.double.infRung = 9218868437227405312 := by decide
  have h3 : Ieee.double.binade = 4503599627370496 := by decide
  have hr : 9218868437227405312 ≤ u % 9223372036854775808 := by
    unfold fexp at he
    omega
  have hn : (u / 9223372036854775808 % 2 == 1) = fneg u := by
    unfold fneg B64 at *
    rw [Bool.eq_iff_iff, beq_iff_eq, beq_iff_eq]
    omega
  unfold Ieee.Format.read
  simp only [h1, h2, h3, hn]
  rw [if_neg (by omega), if_neg (by omega)]
  split
  · exact Or.inl rfl
  · exact Or.inr ⟨_, _, rfl⟩
/-- x + 0 where x is no number: the same infinity; or one of the words that are none, drawn. -/
theorem add_zero_inf (u : Nat) (hu : u < B64) (he : fexp u = 2047) : FloatKind.f64.format.add u 0 = none ∨ ∃ r, FloatKind.f64.format.add u 0 = some r ∧ fexp r = 2047 ∧ r < B64 := by
  have h0 : Ieee.double.read 0 = .number false 0 (-1074) := read_num 0 (by decide) (by decide)
  have e : FloatKind.f64.format.add u 0 = ((Ieee.double.read u).sum (Ieee.double.read 0)).map Ieee.double.write := rfl
  rw [e, h0]
  rcases read_infN u hu he with h | ⟨s, t, h⟩
  · rw [h]
    right
    cases fneg u with
    | false => exact ⟨_, rfl, by decide +kernel, by decide +kernel⟩
    | true => exact ⟨_, rfl, by decide +kernel, by decide +kernel⟩
  · rw [h]
    left
    rfl
theorem cut_nan (t : Nat) (x y : Nat) : fexp ((Question.nanBits .f64 x y).cut t) = 2047 ∧ (Question.nanBits .f64 x y).cut t < B64 := by
  show fexp (t % 2 * 9223372036854775808 + 9218868437227405312 + 1 + t / 2 % 4503599627370495) = 2047 ∧ t % 2 * 9223372036854775808 + 9218868437227405312 + 1 + t / 2 % 4503599627370495 < B64
  have hs : t % 2 = 0 ∨ t % 2 = 1 := by omega
  have hm : t / 2 % 4503599627370495 < 4503599627370495 := Nat.mod_lt _ (by decide)
  generalize t / 2 % 4503599627370495 = m at *
  unfold fexp B64
  rcases hs with h | h <;> rw [h]
  · have e : (0 * 9223372036854775808 + 9218868437227405312 + 1 + m) / 4503599627370496 = 2047 := by omega
    rw [e]
    omega
  · have e : (1 * 9223372036854775808 + 9218868437227405312 + 1 + m) / 4503599627370496 = 4095 := by omega
    rw [e]
    omega
/-- x + 0 as a step: what comes out, and what becomes of the world. -/
theorem run_plain (u : Nat) (hu : u < B64) (w : World) : ∃ v w', (binOp .add 43 (.float .f64 u) (.float .f64 0)).run Tryz.prog w = .ok (.float .f64 v) w' ∧ PlainR u v ∧ (w' = w ∨ w' = w.drew) := by
  by_cases he : fexp u = 2047
  · rcases add_zero_inf u hu he with h | ⟨r, h, h1, h2⟩
    · have hc := cut_nan (w.tape w.drawn (.nanBits .f64 u 0)) u 0
      refine ⟨_, w.drew, ?_, Or.inr ⟨he, hc.1, hc.2⟩, Or.inr rfl⟩
      simp [binOp, Op.floatArith, h, Question.forced]
    · exact ⟨r, w, run_float_arith w .add _ .f64 u 0 _ h, Or.inr ⟨he, h1, h2⟩, Or.inl rfl⟩
  · exact ⟨plainU u, w, run_float_arith w .add _ .f64 u 0 _ (add_zero_num u hu he), Or.inl ⟨he, rfl⟩, Or.inl rfl⟩
theorem make_fltsM (n : Nat) (hn : n ≤ MAXF) (w : World) : (Instr.makeSlice 22 (.int .i64 (n : Int)) (.int .i64 (n : Int))).run Tryz.prog w = .ok (.slice (some ⟨w.heap.size, 0, none⟩) n n) (w.alloc (.cells (madeCells #[.float .f64 0] n) 43)) := by
  unfold MAXF at hn
  obtain ⟨i0, hi0, hz0, hz1, hz2⟩ := info_parts infoF64
  have hr := run_make (P := Tryz.prog) w 22 43 i0 _ Tryz.underlying22 hi0 hz0 .i64 .i64 n n (by omega) (Int.le_refl _) (by rw [hz2]; omega) (by omega)
  simp only [Int.toNat_natCast] at hr
  rw [hz1, Nat.mul_one] at hr
  exact hr
set_option maxHeartbeats 4000000 in
theorem plain2_any (w : World) (A : Option Addr) (n cap : Nat) (us : List Nat) (h : FR w A us) (hl : us.length = n) (hn : n ≤ MAXF) (su : Small us) :
    Calls Tryz.prog 91 #[.slice A n cap] w fun e w' => ∃ g vs, e = .returned (.slice (some ⟨g, 0, none⟩) n n) ∧ w.heap.size ≤ g ∧ PlainL us vs ∧ FlB w' g n vs ∧ Below w.heap.size w w' := by
  have hmk := make_fltsM n hn
  unfold MAXF at hn
  have HL := Lib.hid hl
  clear hl
  go_enter Tryz.func91, Tryz.ntmps91
  go_wp2_with fail
  have ks : FlB (w.alloc (.cells (madeCells #[.float .f64 0] n) 43)) w.heap.size n [] := ⟨_, World.alloc_heap_new _ _, size_madeCells _ _, fun j s hs => by simp at hs⟩
  have kb : Below w.heap.size w (w.alloc (.cells (madeCells #[.float .f64 0] n) 43)) := below_alloc _ _
  generalize w.alloc (.cells (madeCells #[.float .f64 0] n) 43) = W2 at *
  clear hmk
  go_loopw [11] (fun kk wr => ∃ (k : Nat) (vs : List Nat), k ≤ n ∧ kk = .int .i64 (k : Nat) ∧ PlainL (us.take k) vs ∧ FlB wr w.heap.size n vs ∧ Below w.heap.size w wr) (fun kk _ => n - (intOf kk).toNat)
  case atStart => exact ⟨0, [], by omega, rfl, PlainL.nil, ks, kb⟩
  case round =>
    obtain ⟨k, vs, hk, rfl, hP, hs, hb⟩ := hrel
    clear ks kb
    by_cases hlt : k < n
    · have hlt' : (k : Int) < n := by omega
      obtain ⟨u, hu⟩ := get_some us k (by rw [HL.out]; exact hlt)
      obtain ⟨b, o, rfl, hbb, hc⟩ := h.at hb k u hu
      have hc' : wr.cell? ⟨b, o + k, none⟩ = some (.float .f64 u) := hc
      obtain ⟨v, wv, hadd, hPR, hwv⟩ := run_plain u (su.at k u hu) wr
      have hP2 := hP.snoc hPR
      rw [← take_more us k u hu] at hP2
      have hvl : vs.length = k := by rw [hP.len, List.length_take, HL.out]; omega
      have hbv : Below wr.heap.size wr wv := by
        rcases hwv with rfl | rfl
        · exact Below.refl _ _
        · exact (Below.refl _ _).drew
      have hs2 := hs.below hbv
      have hB2 := hb.trans (hbv.mono hb.size)
      obtain ⟨⟨x, c0⟩, z0⟩ := hs2.at hlt
      obtain ⟨s1, g1⟩ := hs2.set hlt hvl v
      have HP := Lib.hid hP2
      clear hc hu hP hP2 hPR hwv hbv hs hs2 hb
      go_wp2_with fail
      refine ⟨⟨k + 1, _, by omega, by go_num, HP.out, s1, hB2.trans (below_row g1 (Nat.le_refl _) hB2.size)⟩, by simp [intOf]; omega⟩
    · obtain rfl : k = n := by omega
      have hlt' : decide ((k : Int) < (k : Nat)) = false := by simp
      rw [List.take_of_length_le (by rw [HL.out]; exact Nat.le_refl _)] at hP
      go_wp2_with fail
      go_ret
      exact ⟨_, _, rfl, Nat.le_refl _, hP, hs, hb⟩
end Go.Proofs.YtpfbgenefjhcjaaGreatDoor
