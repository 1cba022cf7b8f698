/- ambitlaw3.AccBetween: the sums. -/
import Derived.Test.YtopilodakphhgaaGreatDoorBtwEnd
import Derived.Test.YtopilodakphhgaaGreatDoorTermsAll
import Derived.Deep.CutRange
namespace Go.Proofs.YtopilodakphhgaaGreatDoor
set_option linter.unusedVariables false
set_option linter.unusedSimpArgs false
open Go Go.RowKit
set_option maxRecDepth 100000
set_option maxHeartbeats 16000000 in
theorem between_any (w : World) (A1 : Option Addr) (n1 cap1 : Nat) (ts : List Trm) (h1 : TRow w A1 ts) (l1 : ts.length = n1) (c1 : n1 ≤ cap1) (m1 : cap1 ≤ maxLen) :
    Calls Tryz.prog 3 #[.slice A1 n1 cap1] w fun e w' => e = .returned (.bool true) ∧ Below w.heap.size w w' := by
  have ht1 := terms_any w A1 n1 cap1 ts h1 l1 c1 m1
  have hf1 := pick_fine ts h1.small 200
  have hl1 := pickT_length ts 200
  clear h1 l1 c1 m1
  generalize pickT (ts.take 200) = L at *
  go_enter Tryz.func3, Tryz.ntmps3
  go_wp2_with fail
  refine ht1.mono ?_
  rintro e w1 ⟨v1, rfl, ho1, hb1⟩
  obtain ⟨Al, capl, rfl, hcl, hml, hrl, htl⟩ := ho1.trow (fine_small hf1)
  clear htl ho1 ht1
  go_wp2_with fail
  refine (new_any _).mono ?_
  rintro e w2 ⟨rfl, hw2⟩
  have hn2 := new_is w1
  rw [hw2] at hn2
  go_wp2_with fail
  refine (begun_any w2).mono ?_
  rintro e w3 ⟨rfl, hb3⟩
  have ax3 := hn2.1.below hn2.1.lt hb3
  have hb13 := hn2.2.trans (hb3.mono hn2.2.size)
  have hbx : w1.heap.size < w3.heap.size := ax3.lt
  have hb4 := below_alloc w3 (.cells #[.bool false, .slice none 0 0, .int .i64 0] 29)
  have hb14 := hb13.trans (hb4.mono hb13.size)
  have hrel0 : BtwRel w (w3.alloc (.cells #[.bool false, .slice none 0 0, .int .i64 0] 29)) (w3.alloc (.cells #[.bool false, .slice none 0 0, .int .i64 0] 29)) w1.heap.size w3.heap.size 0 :=
    ⟨hb1.trans (hb14.mono hb1.size), Nat.le_refl _, fun _ _ _ _ => rfl, ax3.below ax3.lt hb4, NumAt.new w3, hb1.size, hbx, by simp⟩
  have hrow : RowIn (w3.alloc (.cells #[.bool false, .slice none 0 0, .int .i64 0] 29)) w1.heap.size w3.heap.size w3.heap.size Al L := RowIn.of hrl hf1 hb14 (Nat.le_refl _) (Nat.le_of_lt hbx) (Nat.le_of_lt hbx)
  clear hb14 hb13 ax3 hb3 hn2 hw2 hb4 hrl hb1 hbx
  go_upto_region 6 with fail
  generalize w3.alloc (.cells #[.bool false, .slice none 0 0, .int .i64 0] 29) = W5 at *
  generalize w1.heap.size = bx at *
  generalize w3.heap.size = gv at *
  clear w1 w2 w3
  obtain ⟨N, hN⟩ : ∃ N, N = L.length := ⟨_, rfl⟩
  rw [← hN]
  rw [← hN] at hcl
  have hNN := Lib.hid hN
  have hN9 : N ≤ 200 := by omega
  clear hN
  go_wp2_with fail
  go_loopw [5] (fun i wr => ∃ k : Nat, k ≤ N ∧ i = .int .i64 (k : Nat) ∧ BtwRel w W5 wr bx gv (sumT (L.take k))) (fun i _ => N - (intOf i).toNat)
  case atStart => exact ⟨0, by omega, rfl, hrel0⟩
  case round =>
    obtain ⟨k, hk, rfl, hr⟩ := hrel
    clear hrel0
    by_cases hlt : k < N
    · have hlt' : (k : Int) < (N : Int) := by omega
      have hk0 : (0 : Int) ≤ (k : Int) := by omega
      obtain ⟨t, ht⟩ : ∃ t, L[k]? = some t := ⟨L[k]'(by have := hNN.out; omega), List.getElem?_eq_getElem _⟩
      obtain ⟨hft, b, o, rfl, hb5, hbx, hbv, d0, d1, d2⟩ := hr.cells hrow k t ht
      have hs1 := sumT_next L k t ht
      have hs2 := sumT_take L (k + 1) hf1
      have hs3 := sumT_take L k hf1
      have hle : (k + 1) * KT ≤ 200 * KT := Nat.mul_le_mul_right _ (by omega)
      have hle' : k * KT ≤ 200 * KT := Nat.mul_le_mul_right _ (by omega)
      have hKL := KT_LIM
      have hinto := into_fine wr bx t false (sumT (L.take k)) hr.ax hft (by show (sumT (L.take k) + valT t).natAbs < LIM; rw [← hs1]; omega)
      rw [show (bif false then sumT (L.take k) - valT t else sumT (L.take k) + valT t) = sumT (L.take (k + 1)) from hs1.symm] at hinto
      have hz1 : (sumT (L.take k)).natAbs < LIM := by omega
      have HS1 := Lib.hid hs1
      clear hs1 hs2 hs3 hle hle' hKL
      go_wp2_with fail
      refine hinto.mono ?_
      rintro e w8 ⟨rfl, ha8, hg8⟩
      have hr8 := hr.into hg8 ha8
      have kp : wr.heap[b]? = w8.heap[b]? := (hg8.block b (by have := hr.size; omega) (by simp [hbx])).symm
      rw [World.cell?_of_block (a := ⟨b, _, none⟩) kp] at d0 d1 d2
      obtain ⟨fa, fb, ea, eb, en1, en2⟩ := hft
      have hofa := Of_any w8 t.a fa
      have hebA : (fexp t.a != 2047) = true := by rw [bne_iff_ne]; exact ea
      have hebB : (fexp t.b != 2047) = true := by rw [bne_iff_ne]; exact eb
      rw [hebA] at hofa
      have hal : (t.a : Int) ≤ 18446744073709551615 := by unfold B64 at fa; omega
      have hbl : (t.b : Int) ≤ 18446744073709551615 := by unfold B64 at fb; omega
      clear hinto hr ha8 hg8 kp hebA
      have hb8 : b < w8.heap.size := by have := hr8.size; omega
      go_wp2_with fail
      refine hofa.mono ?_
      rintro e w9 ⟨na, va, Ea, rfl, hoa, b9, Aa, ca, ka, rfl, _⟩
      have b10 := below_alloc w9 (.cells #[.bool na, .slice Aa ca ka, .int .i64 Ea] 29)
      have b8 := b9.trans (b10.mono b9.size)
      have q6 := heap_alloc_new w9 (.cells #[.bool na, .slice Aa ca ka, .int .i64 Ea] 29)
      have z10 : (w9.alloc (.cells #[.bool na, .slice Aa ca ka, .int .i64 Ea] 29)).heap.size = w9.heap.size + 1 := by simp
      have z9 := b9.size
      have ho10 := (hoa ea).below b10
      have e1 : (w9.alloc (.cells #[.bool na, .slice Aa ca ka, .int .i64 Ea] 29)).cell? ⟨b, o + k * 3 + 1, none⟩ = some (.int .u64 (t.b : Nat)) := by rw [b8.cell hb8]; exact d1
      have e2 : (w9.alloc (.cells #[.bool na, .slice Aa ca ka, .int .i64 Ea] 29)).cell? ⟨b, o + k * 3 + 2, none⟩ = some (.int .i64 t.n) := by rw [b8.cell hb8]; exact d2
      have hofb := Of_any (w9.alloc (.cells #[.bool na, .slice Aa ca ka, .int .i64 Ea] 29)) t.b fb
      rw [hebB] at hofb
      have hr10 := hr8.mono b8
      have hb10 : b < (w9.alloc (.cells #[.bool na, .slice Aa ca ka, .int .i64 Ea] 29)).heap.size := by rw [z10]; omega
      clear hofa hoa b9 b10 b8 d0 d1 d2 hr8 hb8
      go_upto_region 11 with fail
      generalize w9.alloc (.cells #[.bool na, .slice Aa ca ka, .int .i64 Ea] 29) = W10 at *
      go_wp2_with fail
      refine hofb.mono ?_
      rintro e w11 ⟨nb, vb, Eb, rfl, hob, b11, Ab, cb, kb, rfl, _⟩
      have b12 := below_alloc w11 (.cells #[.bool nb, .slice Ab cb kb, .int .i64 Eb] 29)
      have b10 := b11.trans (b12.mono b11.size)
      have q8 := heap_alloc_new w11 (.cells #[.bool nb, .slice Ab cb kb, .int .i64 Eb] 29)
      have z12 : (w11.alloc (.cells #[.bool nb, .slice Ab cb kb, .int .i64 Eb] 29)).heap.size = w11.heap.size + 1 := by simp
      have z11 := b11.size
      have q6' := (b10.block w9.heap.size (by omega)).trans q6
      have hoB := (hob eb).below b12
      have hoA := ho10.below b10
      have f2 : (w11.alloc (.cells #[.bool nb, .slice Ab cb kb, .int .i64 Eb] 29)).cell? ⟨b, o + k * 3 + 2, none⟩ = some (.int .i64 t.n) := by rw [b10.cell hb10]; exact e2
      have hr12 := hr10.mono b10
      have hb12 : b < (w11.alloc (.cells #[.bool nb, .slice Ab cb kb, .int .i64 Eb] 29)).heap.size := by rw [z12]; omega
      clear hofb hob b11 b12 b10 e1 e2 hr10 hb10 q6 ho10
      go_upto_region 12 with fail
      generalize w11.alloc (.cells #[.bool nb, .slice Ab cb kb, .int .i64 Eb] 29) = W12 at *
      obtain ⟨ng, Av, cv, kv, Ev, qv, hnv⟩ := hr12.nv
      obtain ⟨v0, v1, v2⟩ := cells3 (w := W12.drew) qv
      obtain ⟨a0, a1, a2⟩ := cells3 (w := W12.drew) q6'
      obtain ⟨c0, c1, c2⟩ := cells3 (w := W12.drew) q8
      have f2d : W12.drew.cell? ⟨b, o + k * 3 + 2, none⟩ = some (.int .i64 t.n) := f2
      have hcap := prodS_cap (sumT (L.take k)) t.a t.b t.n hz1 ea eb en2
      have tg : gv < W12.drew.heap.size := hr12.nv.lt
      have t9 : w9.heap.size < W12.drew.heap.size := by show _ < W12.heap.size; omega
      have t11 : w11.heap.size < W12.drew.heap.size := by show _ < W12.heap.size; omega
      have tb : b < W12.drew.heap.size := hb12
      have HS : ∀ w' : World, Below W12.drew.heap.size W12.drew w' → (w'.cell? ⟨gv, 0, none⟩ = some (.bool ng) ∧ w'.cell? ⟨gv, 1, none⟩ = some (.slice Av cv kv) ∧ w'.cell? ⟨gv, 2, none⟩ = some (.int .i64 Ev) ∧ w'.cell? ⟨w9.heap.size, 0, none⟩ = some (.bool na) ∧ w'.cell? ⟨w9.heap.size, 1, none⟩ = some (.slice Aa ca ka) ∧ w'.cell? ⟨w9.heap.size, 2, none⟩ = some (.int .i64 Ea) ∧ w'.cell? ⟨w11.heap.size, 0, none⟩ = some (.bool nb) ∧ w'.cell? ⟨w11.heap.size, 1, none⟩ = some (.slice Ab cb kb) ∧ w'.cell? ⟨w11.heap.size, 2, none⟩ = some (.int .i64 Eb) ∧ w'.cell? ⟨b, o + k * 3 + 2, none⟩ = some (.int .i64 t.n)) := fun w' hb =>
        ⟨(hb.cell tg).trans v0, (hb.cell tg).trans v1, (hb.cell tg).trans v2, (hb.cell t9).trans a0, (hb.cell t9).trans a1, (hb.cell t9).trans a2, (hb.cell t11).trans c0, (hb.cell t11).trans c1, (hb.cell t11).trans c2, (hb.cell tb).trans f2d⟩
      have hS := HS _ (Below.refl _ W12.drew)
      have HS' := Lib.hid HS
      clear HS v0 v1 v2 a0 a1 a2 c0 c1 c2 f2d f2 q6' q8
      refine late_begin (fun w' => w'.cell? ⟨gv, 0, none⟩ = some (.bool ng) ∧ w'.cell? ⟨gv, 1, none⟩ = some (.slice Av cv kv) ∧ w'.cell? ⟨gv, 2, none⟩ = some (.int .i64 Ev) ∧ w'.cell? ⟨w9.heap.size, 0, none⟩ = some (.bool na) ∧ w'.cell? ⟨w9.heap.size, 1, none⟩ = some (.slice Aa ca ka) ∧ w'.cell? ⟨w9.heap.size, 2, none⟩ = some (.int .i64 Ea) ∧ w'.cell? ⟨w11.heap.size, 0, none⟩ = some (.bool nb) ∧ w'.cell? ⟨w11.heap.size, 1, none⟩ = some (.slice Ab cb kb) ∧ w'.cell? ⟨w11.heap.size, 2, none⟩ = some (.int .i64 Eb) ∧ w'.cell? ⟨b, o + k * 3 + 2, none⟩ = some (.int .i64 t.n)) [11] (by kernel_rfl) ?_
      refine late_take (i := 0) (v := ?v0) (some 62) rfl rfl (by kernel_rfl) (by kernel_rfl) (by kernel_rfl) (by kernel_rfl) (fun _ _ _ h => h) (by kernel_rfl) hS ?y0 ?_
      case y0 =>
        intro w hSw
        (try dsimp only at hSw)
        go_simp
        try rfl
      try simp only [Act.put, List.setIfInBounds_toArray, List.set_cons_zero, List.set_cons_succ]
      refine late_take (i := 1) (v := ?v1) (some 63) rfl rfl (by kernel_rfl) (by kernel_rfl) (by kernel_rfl) (by kernel_rfl) (fun _ _ _ h => h) (by kernel_rfl) hS ?y1 ?_
      case y1 =>
        intro w hSw
        (try dsimp only at hSw)
        go_simp
        try rfl
      try simp only [Act.put, List.setIfInBounds_toArray, List.set_cons_zero, List.set_cons_succ]
      refine late_take (i := 2) (v := ?v2) (some 64) rfl rfl (by kernel_rfl) (by kernel_rfl) (by kernel_rfl) (by kernel_rfl) (fun _ _ _ h => h) (by kernel_rfl) hS ?y2 ?_
      case y2 =>
        intro w hSw
        (try dsimp only at hSw)
        go_simp
        try rfl
      try simp only [Act.put, List.setIfInBounds_toArray, List.set_cons_zero, List.set_cons_succ]
      refine late_take (i := 4) (v := ?v4) (some 66) rfl rfl (by kernel_rfl) (by kernel_rfl) (by kernel_rfl) (by kernel_rfl) (fun _ _ _ h => h) (by kernel_rfl) hS ?y4 ?_
      case y4 =>
        intro w hSw
        (try dsimp only at hSw)
        go_simp
        try rfl
      try simp only [Act.put, List.setIfInBounds_toArray, List.set_cons_zero, List.set_cons_succ]
      refine late_take (i := 5) (v := ?v5) (some 67) rfl rfl (by kernel_rfl) (by kernel_rfl) (by kernel_rfl) (by kernel_rfl) (fun _ _ _ h => h) (by kernel_rfl) hS ?y5 ?_
      case y5 =>
        intro w hSw
        (try dsimp only at hSw)
        go_simp
        try rfl
      try simp only [Act.put, List.setIfInBounds_toArray, List.set_cons_zero, List.set_cons_succ]
      refine late_take (i := 6) (v := ?v6) (some 68) rfl rfl (by kernel_rfl) (by kernel_rfl) (by kernel_rfl) (by kernel_rfl) (fun _ _ _ h => h) (by kernel_rfl) hS ?y6 ?_
      case y6 =>
        intro w hSw
        (try dsimp only at hSw)
        go_simp
        try rfl
      try simp only [Act.put, List.setIfInBounds_toArray, List.set_cons_zero, List.set_cons_succ]
      refine late_take (i := 7) (v := ?v7) (some 69) rfl rfl (by kernel_rfl) (by kernel_rfl) (by kernel_rfl) (by kernel_rfl) (fun _ _ _ h => h) (by kernel_rfl) hS ?y7 ?_
      case y7 =>
        intro w hSw
        (try dsimp only at hSw)
        go_simp
        try rfl
      try simp only [Act.put, List.setIfInBounds_toArray, List.set_cons_zero, List.set_cons_succ]
      refine late_take (i := 8) (v := ?v8) (some 70) rfl rfl (by kernel_rfl) (by kernel_rfl) (by kernel_rfl) (by kernel_rfl) (fun _ _ _ h => h) (by kernel_rfl) hS ?y8 ?_
      case y8 =>
        intro w hSw
        (try dsimp only at hSw)
        go_simp
        try rfl
      try simp only [Act.put, List.setIfInBounds_toArray, List.set_cons_zero, List.set_cons_succ]
      refine late_one (i := 3) rfl (by kernel_rfl) ?_
      intro K hK
      go_simp
      refine (Times_any _ _ _ _ _ _ _ t.a t.b (hoA.below (Below.refl _ W12).drew) (hoB.below (Below.refl _ W12).drew) ea eb).mono ?_
      rintro e w13 ⟨nt, vt, Et, rfl, ht13, b13⟩
      obtain ⟨At, ct, kt, rfl, hct⟩ := ht13.form
      try show K _ _
      refine hK.out _ _ (Or.inr (HS'.out _ b13)) ?_
      clear hK K
      try simp only [Act.put, List.setIfInBounds_toArray, List.set_cons_zero, List.set_cons_succ]
      refine late_one (i := 9) rfl (by kernel_rfl) ?_
      intro K hK
      go_simp
      refine (moved_num _ _ _ _ t.a t.b t.n ht13 ea eb en1 en2).mono ?_
      rintro e w14 ⟨Em, rfl, hm14, b14'⟩
      have b14 := b13.trans (b14'.mono b13.size)
      try show K _ _
      refine hK.out _ _ (Or.inr (HS'.out _ b14)) ?_
      clear hK K
      try simp only [Act.put, List.setIfInBounds_toArray, List.set_cons_zero, List.set_cons_succ]
      refine late_one (i := 10) rfl (by kernel_rfl) ?_
      intro K hK
      go_simp
      refine (plus_num _ _ _ _ _ _ _ (sumT (L.take k)) (prodZ t.a t.b t.n) ((hnv.below (Below.refl _ W12).drew).below b14) hm14 hcap).mono ?_
      rintro e w15 ⟨ns, vs, Es, rfl, hn15, b15'⟩
      obtain ⟨As, cs, ks, rfl, hcs⟩ := hn15.form
      have b15 := b14.trans (b15'.mono b14.size)
      try show K _ _
      refine hK.out _ _ (Or.inr (HS'.out _ b15)) ?_
      clear hK K
      try simp only [Act.put, List.setIfInBounds_toArray, List.set_cons_zero, List.set_cons_succ]
      have q15 := (b15.block gv tg).trans (show W12.drew.heap[gv]? = _ from qv)
      obtain ⟨y0, y1, y2⟩ := cells3 q15
      have hfr : ∀ j, w15.frozen? ⟨gv, j, none⟩ = false := fun j => frozen_of_row w15 _ j _ _ q15
      refine late_one (i := 11) rfl (by kernel_rfl) ?_
      intro K hK
      go_simp
      try show K _ _
      refine hK.out _ _ (Or.inl (by decide)) ?_
      clear hK K
      try simp only [Act.put, List.setIfInBounds_toArray, List.set_cons_zero, List.set_cons_succ]
      refine late_done (by kernel_rfl) ?_ _
      obtain ⟨hn16, hg16⟩ := NumAt.put q15 hn15
      rw [show sumT (L.take k) + prodZ t.a t.b t.n = sumT (L.take (k + 1)) from HS1.out.symm] at hn16
      have hr15 : BtwMid w W5 w15 bx gv _ _ := hr12.mono ((Below.refl _ W12).drew.trans (b15.mono (Nat.le_refl _)))
      have hr16 := hr15.put hg16 hn16
      clear hr15 hr12 hn16 hg16 q15 y0 y1 y2 hfr hn15 b15 b14 b13 b14' b15' hS hoA hoB hnv
      generalize ((w15.setCell ⟨gv, 0, none⟩ (.bool ns)).setCell ⟨gv, 1, none⟩ (.slice As cs ks)).setCell ⟨gv, 2, none⟩ (.int .i64 Es) = W16 at *
      go_wp2_with fail
      go_roundw
      case rel => exact ⟨k + 1, by omega, by go_num, hr16⟩
      case measure => simp [intOf]; omega
    · obtain rfl : k = N := by omega
      have hlt' : decide ((k : Int) < (k : Nat)) = false := by simp
      rw [show sumT (L.take k) = sumT L by rw [List.take_of_length_le (by have := hNN.out; omega)]] at hr
      have hX := sumT_lt L hf1
      obtain ⟨z, hze⟩ : ∃ z, z = sumT L := ⟨_, rfl⟩
      rw [← hze] at hr hX
      have hzl : z.natAbs < LIM := by
        have hle : L.length * KT ≤ 200 * KT := Nat.mul_le_mul_right _ hl1
        have hKL := KT_LIM
        omega
      have hbet := bet_three z
      have hr2 := fun w' (h : AccIs w' bx (some z)) => round_any w' bx 2 (some z) h (by decide) (by decide)
      have hr1 := fun w' (h : AccIs w' bx (some z)) => round_any w' bx 1 (some z) h (by decide) (by decide)
      have hr0 := fun w' (h : AccIs w' bx (some z)) => round_any w' bx 0 (some z) h (by decide) (by decide)
      revert hbet hr2 hr1 hr0
      generalize roundS 2 (some z) = R2
      generalize roundS 1 (some z) = R1
      generalize roundS 0 (some z) = R0
      intro hbet hr2 hr1 hr0
      clear hze hX hlt hk hf1 hrow hNN hN9 hl1
      rcases hbet with hO | hU | hB
      · obtain ⟨r0, f0⟩ := R0
        obtain ⟨rfl, rfl, hle, hR0⟩ := hO
        have hmost : MAXB = 9218868437227405311 := rfl
        rw [hmost] at hle hR0 hr2
        have HR := Lib.hid hR0
        clear hR0 hmost
        obtain ⟨hae, haB, ha0⟩ := num1_max
        have hva := fun w' => value_num w' 9218868437227405311 haB hae
        have hbta := bits_nat 9218868437227405311
        have hoa : (FloatKind.f64.format.order 9218868437227405311 9218868437227405311 == some .eq) = true := by rw [order_same _ hae]; rfl
        have hal : ((9218868437227405311 : Nat) : Int) ≤ 18446744073709551615 := by unfold B64 at haB; omega
        obtain ⟨sa, hsa⟩ : ∃ s, (fz 9218868437227405311 + -z).sign = s := ⟨_, rfl⟩
        have hga : decide ((0 : Int) < sa) = false := by rw [← hsa]; exact decide_eq_false (sign_le hle)
        go_wp2_with fail
        refine (hr2 _ hr.ax).mono ?_
        rintro e w2 ⟨rfl, b2⟩
        have hr' := hr.mono b2
        clear hr b2 hr2
        go_wp2_with fail
        refine (hr1 _ hr'.ax).mono ?_
        rintro e w3 ⟨rfl, b3⟩
        have hr := hr'.mono b3
        clear hr' b3 hr1
        go_wp2_with fail
        refine (hr0 _ hr.ax).mono ?_
        rintro e w4 ⟨rfl, b4⟩
        have hr' := hr.mono b4
        clear hr b4 hr0
        go_upto_region 16 with fail
        obtain ⟨ng, Av, cv, kv, Ev, qv, hnv⟩ := hr'.nv
        obtain ⟨v0, v1, v2⟩ := cells3 (w := w4.drew) qv
        have tg : gv < w4.drew.heap.size := hr'.nv.lt
        have HS : ∀ w' : World, Below w4.drew.heap.size w4.drew w' → (w'.cell? ⟨gv, 0, none⟩ = some (.bool ng) ∧ w'.cell? ⟨gv, 1, none⟩ = some (.slice Av cv kv) ∧ w'.cell? ⟨gv, 2, none⟩ = some (.int .i64 Ev)) := fun w' hb => ⟨(hb.cell tg).trans v0, (hb.cell tg).trans v1, (hb.cell tg).trans v2⟩
        have hS := HS _ (Below.refl _ w4.drew)
        have HS' := Lib.hid HS
        have hnd : NumIs w4.drew ng (.slice Av cv kv) Ev z := hnv.below (Below.refl _ w4).drew
        have hbel : Below w.heap.size w w4.drew := hr'.below.drew
        clear HS v0 v1 v2
        refine late_begin (fun w' => w'.cell? ⟨gv, 0, none⟩ = some (.bool ng) ∧ w'.cell? ⟨gv, 1, none⟩ = some (.slice Av cv kv) ∧ w'.cell? ⟨gv, 2, none⟩ = some (.int .i64 Ev)) [] (by kernel_rfl) ?_
        refine late_take (i := 0) (v := ?_) (some 88) rfl rfl (by kernel_rfl) (by kernel_rfl) (by kernel_rfl) (by kernel_rfl) (fun _ _ _ h => h) (by kernel_rfl) hS ?_ ?_
        rotate_left
        · (intro w hSw; (try dsimp only at hSw); go_simp; try rfl)
        try simp only [Act.put, List.setIfInBounds_toArray, List.set_cons_zero, List.set_cons_succ]
        refine late_take (i := 1) (v := ?_) (some 89) rfl rfl (by kernel_rfl) (by kernel_rfl) (by kernel_rfl) (by kernel_rfl) (fun _ _ _ h => h) (by kernel_rfl) hS ?_ ?_
        rotate_left
        · (intro w hSw; (try dsimp only at hSw); go_simp; try rfl)
        try simp only [Act.put, List.setIfInBounds_toArray, List.set_cons_zero, List.set_cons_succ]
        refine late_take (i := 2) (v := ?_) (some 90) rfl rfl (by kernel_rfl) (by kernel_rfl) (by kernel_rfl) (by kernel_rfl) (fun _ _ _ h => h) (by kernel_rfl) hS ?_ ?_
        rotate_left
        · (intro w hSw; (try dsimp only at hSw); go_simp; try rfl)
        try simp only [Act.put, List.setIfInBounds_toArray, List.set_cons_zero, List.set_cons_succ]
        refine late_skip (i := 3) (some 91) rfl rfl (by kernel_rfl) (by kernel_rfl) (by kernel_rfl) (by kernel_rfl) (fun _ _ _ h => h) (by kernel_rfl) hS ?_
        try simp only [Act.put, List.setIfInBounds_toArray, List.set_cons_zero, List.set_cons_succ]
        refine late_skip (i := 4) (some 92) rfl rfl (by kernel_rfl) (by kernel_rfl) (by kernel_rfl) (by kernel_rfl) (fun _ _ _ h => h) (by kernel_rfl) hS ?_
        try simp only [Act.put, List.setIfInBounds_toArray, List.set_cons_zero, List.set_cons_succ]
        refine late_take (i := 5) (v := ?_) (some 93) rfl rfl (by kernel_rfl) (by kernel_rfl) (by kernel_rfl) (by kernel_rfl) (fun _ _ _ h => h) (by kernel_rfl) hS ?_ ?_
        rotate_left
        · (intro w hSw; (try dsimp only at hSw); go_simp; try rfl)
        try simp only [Act.put, List.setIfInBounds_toArray, List.set_cons_zero, List.set_cons_succ]
        refine late_take (i := 6) (v := ?_) (some 94) rfl rfl (by kernel_rfl) (by kernel_rfl) (by kernel_rfl) (by kernel_rfl) (fun _ _ _ h => h) (by kernel_rfl) hS ?_ ?_
        rotate_left
        · (intro w hSw; (try dsimp only at hSw); go_simp; try rfl)
        try simp only [Act.put, List.setIfInBounds_toArray, List.set_cons_zero, List.set_cons_succ]
        refine late_take (i := 7) (v := ?_) (some 95) rfl rfl (by kernel_rfl) (by kernel_rfl) (by kernel_rfl) (by kernel_rfl) (fun _ _ _ h => h) (by kernel_rfl) hS ?_ ?_
        rotate_left
        · (intro w hSw; (try dsimp only at hSw); go_simp; try rfl)
        try simp only [Act.put, List.setIfInBounds_toArray, List.set_cons_zero, List.set_cons_succ]
        refine late_take (i := 8) (v := ?_) (some 96) rfl rfl (by kernel_rfl) (by kernel_rfl) (by kernel_rfl) (by kernel_rfl) (fun _ _ _ h => h) (by kernel_rfl) hS ?_ ?_
        rotate_left
        · (intro w hSw; (try dsimp only at hSw); go_simp; try rfl)
        try simp only [Act.put, List.setIfInBounds_toArray, List.set_cons_zero, List.set_cons_succ]
        refine late_take (i := 9) (v := ?_) (some 97) rfl rfl (by kernel_rfl) (by kernel_rfl) (by kernel_rfl) (by kernel_rfl) (fun _ _ _ h => h) (by kernel_rfl) hS ?_ ?_
        rotate_left
        · (intro w hSw; (try dsimp only at hSw); go_simp; try rfl)
        try simp only [Act.put, List.setIfInBounds_toArray, List.set_cons_zero, List.set_cons_succ]
        refine late_take (i := 11) (v := ?_) (some 99) rfl rfl (by kernel_rfl) (by kernel_rfl) (by kernel_rfl) (by kernel_rfl) (fun _ _ _ h => h) (by kernel_rfl) hS ?_ ?_
        rotate_left
        · (intro w hSw; (try dsimp only at hSw); go_simp; try rfl)
        try simp only [Act.put, List.setIfInBounds_toArray, List.set_cons_zero, List.set_cons_succ]
        refine late_one (i := 10) rfl (by kernel_rfl) ?_
        intro K hK
        go_simp
        refine (hva _).mono ?_
        rintro e w5 ⟨n5, A5, x5, k5, E5, rfl, hm5, b5⟩
        have c5 := b5
        try show K _ _
        refine hK.out _ _ (Or.inr (HS'.out _ c5)) ?_
        clear hK K
        try simp only [Act.put, List.setIfInBounds_toArray, List.set_cons_zero, List.set_cons_succ]
        refine late_one (i := 12) rfl (by kernel_rfl) ?_
        intro K hK
        go_simp
        refine (Cmp_sg _ _ _ _ _ _ _ _ _ _ hm5 (hnd.below c5) (cap2 _ _ (fz_cap _ hae) (by rw [Int.natAbs_neg]; exact hzl)) hsa).mono ?_
        rintro e w6 ⟨rfl, b6⟩
        have c6 := c5.trans (b6.mono c5.size)
        try show K _ _
        refine hK.out _ _ (Or.inr (HS'.out _ c6)) ?_
        clear hK K
        try simp only [Act.put, List.setIfInBounds_toArray, List.set_cons_zero, List.set_cons_succ]
        refine late_take (i := 13) (v := ?_) (some 101) rfl rfl (by kernel_rfl) (by kernel_rfl) (by kernel_rfl) (by kernel_rfl) (fun _ _ _ h => h) (by kernel_rfl) (HS'.out _ c6) ?_ ?_
        rotate_left
        · (intro w hSw; (try dsimp only at hSw); go_simp; try rfl)
        try simp only [Act.put, List.setIfInBounds_toArray, List.set_cons_zero, List.set_cons_succ]
        refine late_take (i := 14) (v := ?_) (some 102) rfl rfl (by kernel_rfl) (by kernel_rfl) (by kernel_rfl) (by kernel_rfl) (fun _ _ _ h => h) (by kernel_rfl) (HS'.out _ c6) ?_ ?_
        rotate_left
        · (intro w hSw; (try dsimp only at hSw); go_simp; try rfl)
        try simp only [Act.put, List.setIfInBounds_toArray, List.set_cons_zero, List.set_cons_succ]
        refine late_take (i := 15) (v := ?_) (some 103) rfl rfl (by kernel_rfl) (by kernel_rfl) (by kernel_rfl) (by kernel_rfl) (fun _ _ _ h => h) (by kernel_rfl) (HS'.out _ c6) ?_ ?_
        rotate_left
        · (intro w hSw; (try dsimp only at hSw); go_simp; try rfl)
        try simp only [Act.put, List.setIfInBounds_toArray, List.set_cons_zero, List.set_cons_succ]
        refine late_take (i := 16) (v := ?_) (some 104) rfl rfl (by kernel_rfl) (by kernel_rfl) (by kernel_rfl) (by kernel_rfl) (fun _ _ _ h => h) (by kernel_rfl) (HS'.out _ c6) ?_ ?_
        rotate_left
        · (intro w hSw; (try dsimp only at hSw); go_simp; try rfl)
        try simp only [Act.put, List.setIfInBounds_toArray, List.set_cons_zero, List.set_cons_succ]
        refine late_take (i := 17) (v := ?_) (some 105) rfl rfl (by kernel_rfl) (by kernel_rfl) (by kernel_rfl) (by kernel_rfl) (fun _ _ _ h => h) (by kernel_rfl) (HS'.out _ c6) ?_ ?_
        rotate_left
        · (intro w hSw; (try dsimp only at hSw); go_simp; try rfl)
        try simp only [Act.put, List.setIfInBounds_toArray, List.set_cons_zero, List.set_cons_succ]
        refine late_take (i := 18) (v := ?_) (some 106) rfl rfl (by kernel_rfl) (by kernel_rfl) (by kernel_rfl) (by kernel_rfl) (fun _ _ _ h => h) (by kernel_rfl) (HS'.out _ c6) ?_ ?_
        rotate_left
        · (intro w hSw; (try dsimp only at hSw); go_simp; try rfl)
        try simp only [Act.put, List.setIfInBounds_toArray, List.set_cons_zero, List.set_cons_succ]
        refine late_skip (i := 19) (some 107) rfl rfl (by kernel_rfl) (by kernel_rfl) (by kernel_rfl) (by kernel_rfl) (fun _ _ _ h => h) (by kernel_rfl) (HS'.out _ c6) ?_
        try simp only [Act.put, List.setIfInBounds_toArray, List.set_cons_zero, List.set_cons_succ]
        refine late_skip (i := 20) (some 108) rfl rfl (by kernel_rfl) (by kernel_rfl) (by kernel_rfl) (by kernel_rfl) (fun _ _ _ h => h) (by kernel_rfl) (HS'.out _ c6) ?_
        try simp only [Act.put, List.setIfInBounds_toArray, List.set_cons_zero, List.set_cons_succ]
        refine late_skip (i := 21) (some 109) rfl rfl (by kernel_rfl) (by kernel_rfl) (by kernel_rfl) (by kernel_rfl) (fun _ _ _ h => h) (by kernel_rfl) (HS'.out _ c6) ?_
        try simp only [Act.put, List.setIfInBounds_toArray, List.set_cons_zero, List.set_cons_succ]
        refine late_skip (i := 22) (some 110) rfl rfl (by kernel_rfl) (by kernel_rfl) (by kernel_rfl) (by kernel_rfl) (fun _ _ _ h => h) (by kernel_rfl) (HS'.out _ c6) ?_
        try simp only [Act.put, List.setIfInBounds_toArray, List.set_cons_zero, List.set_cons_succ]
        refine late_skip (i := 23) (some 111) rfl rfl (by kernel_rfl) (by kernel_rfl) (by kernel_rfl) (by kernel_rfl) (fun _ _ _ h => h) (by kernel_rfl) (HS'.out _ c6) ?_
        try simp only [Act.put, List.setIfInBounds_toArray, List.set_cons_zero, List.set_cons_succ]
        refine late_take (i := 24) (v := ?_) (some 112) rfl rfl (by kernel_rfl) (by kernel_rfl) (by kernel_rfl) (by kernel_rfl) (fun _ _ _ h => h) (by kernel_rfl) (HS'.out _ c6) ?_ ?_
        rotate_left
        · (intro w hSw; (try dsimp only at hSw); go_simp; try rfl)
        try simp only [Act.put, List.setIfInBounds_toArray, List.set_cons_zero, List.set_cons_succ]
        refine late_take (i := 25) (v := ?_) (some 113) rfl rfl (by kernel_rfl) (by kernel_rfl) (by kernel_rfl) (by kernel_rfl) (fun _ _ _ h => h) (by kernel_rfl) (HS'.out _ c6) ?_ ?_
        rotate_left
        · (intro w hSw; (try dsimp only at hSw); go_simp; try rfl)
        try simp only [Act.put, List.setIfInBounds_toArray, List.set_cons_zero, List.set_cons_succ]
        refine late_done (by kernel_rfl) ?_ _
        clear hsa hS HS' hnd hm5 hr' hnv qv tg b5 b6 c5 hva hae haB ha0 hle hga hzl
        have hfl := float_nat 9218868437227405311
        go_upto_region 20 with (refine (hfl _).mono ?_; rintro e w7 ⟨rfl, rfl⟩)
        rcases HR.out with hR0 | hR0
        all_goals clear HR
        all_goals injection hR0 with e1 e2
        all_goals subst e1
        all_goals subst e2
        all_goals go_wp2_with fail
        all_goals go_ret
        all_goals exact ⟨rfl, hbel.trans (c6.mono hbel.size)⟩
      · obtain ⟨r0, f0⟩ := R0
        obtain ⟨rfl, rfl, hle, hR0⟩ := hU
        have hmost : MAXB + 9223372036854775808 = 18442240474082181119 := rfl
        rw [hmost] at hle hR0 hr1
        have HR := Lib.hid hR0
        clear hR0 hmost
        obtain ⟨hbe, hbB, hb0⟩ := num1_min
        have hvb := fun w' => value_num w' 18442240474082181119 hbB hbe
        have hbtb := bits_nat 18442240474082181119
        have hob : (FloatKind.f64.format.order 18442240474082181119 18442240474082181119 == some .eq) = true := by rw [order_same _ hbe]; rfl
        have hbl : ((18442240474082181119 : Nat) : Int) ≤ 18446744073709551615 := by unfold B64 at hbB; omega
        obtain ⟨sb, hsb⟩ : ∃ s, (fz 18442240474082181119 + -z).sign = s := ⟨_, rfl⟩
        have hgb : decide (sb < (0 : Int)) = false := by rw [← hsb]; exact decide_eq_false (sign_ge hle)
        have hun := run_neg_float 9218868437227405311
        rw [show nf 9218868437227405311 = 18442240474082181119 by decide] at hun
        have hor : (FloatKind.f64.format.order 18442240474082181119 0 == some .eq) = false := by decide +kernel
        go_wp2_with fail
        refine (hr2 _ hr.ax).mono ?_
        rintro e w2 ⟨rfl, b2⟩
        have hr' := hr.mono b2
        clear hr b2 hr2
        go_wp2_with fail
        refine (hr1 _ hr'.ax).mono ?_
        rintro e w3 ⟨rfl, b3⟩
        have hr := hr'.mono b3
        clear hr' b3 hr1
        go_wp2_with fail
        refine (hr0 _ hr.ax).mono ?_
        rintro e w4 ⟨rfl, b4⟩
        have hr' := hr.mono b4
        clear hr b4 hr0
        go_upto_region 16 with fail
        obtain ⟨ng, Av, cv, kv, Ev, qv, hnv⟩ := hr'.nv
        obtain ⟨v0, v1, v2⟩ := cells3 (w := w4.drew) qv
        have tg : gv < w4.drew.heap.size := hr'.nv.lt
        have HS : ∀ w' : World, Below w4.drew.heap.size w4.drew w' → (w'.cell? ⟨gv, 0, none⟩ = some (.bool ng) ∧ w'.cell? ⟨gv, 1, none⟩ = some (.slice Av cv kv) ∧ w'.cell? ⟨gv, 2, none⟩ = some (.int .i64 Ev)) := fun w' hb => ⟨(hb.cell tg).trans v0, (hb.cell tg).trans v1, (hb.cell tg).trans v2⟩
        have hS := HS _ (Below.refl _ w4.drew)
        have HS' := Lib.hid HS
        have hnd : NumIs w4.drew ng (.slice Av cv kv) Ev z := hnv.below (Below.refl _ w4).drew
        have hbel : Below w.heap.size w w4.drew := hr'.below.drew
        clear HS v0 v1 v2
        refine late_begin (fun w' => w'.cell? ⟨gv, 0, none⟩ = some (.bool ng) ∧ w'.cell? ⟨gv, 1, none⟩ = some (.slice Av cv kv) ∧ w'.cell? ⟨gv, 2, none⟩ = some (.int .i64 Ev)) [] (by kernel_rfl) ?_
        refine late_take (i := 0) (v := ?_) (some 88) rfl rfl (by kernel_rfl) (by kernel_rfl) (by kernel_rfl) (by kernel_rfl) (fun _ _ _ h => h) (by kernel_rfl) hS ?_ ?_
        rotate_left
        · (intro w hSw; (try dsimp only at hSw); go_simp; try rfl)
        try simp only [Act.put, List.setIfInBounds_toArray, List.set_cons_zero, List.set_cons_succ]
        refine late_take (i := 1) (v := ?_) (some 89) rfl rfl (by kernel_rfl) (by kernel_rfl) (by kernel_rfl) (by kernel_rfl) (fun _ _ _ h => h) (by kernel_rfl) hS ?_ ?_
        rotate_left
        · (intro w hSw; (try dsimp only at hSw); go_simp; try rfl)
        try simp only [Act.put, List.setIfInBounds_toArray, List.set_cons_zero, List.set_cons_succ]
        refine late_take (i := 2) (v := ?_) (some 90) rfl rfl (by kernel_rfl) (by kernel_rfl) (by kernel_rfl) (by kernel_rfl) (fun _ _ _ h => h) (by kernel_rfl) hS ?_ ?_
        rotate_left
        · (intro w hSw; (try dsimp only at hSw); go_simp; try rfl)
        try simp only [Act.put, List.setIfInBounds_toArray, List.set_cons_zero, List.set_cons_succ]
        refine late_take (i := 3) (v := ?_) (some 91) rfl rfl (by kernel_rfl) (by kernel_rfl) (by kernel_rfl) (by kernel_rfl) (fun _ _ _ h => h) (by kernel_rfl) hS ?_ ?_
        rotate_left
        · (intro w hSw; (try dsimp only at hSw); go_simp; try rfl)
        try simp only [Act.put, List.setIfInBounds_toArray, List.set_cons_zero, List.set_cons_succ]
        refine late_take (i := 4) (v := ?_) (some 92) rfl rfl (by kernel_rfl) (by kernel_rfl) (by kernel_rfl) (by kernel_rfl) (fun _ _ _ h => h) (by kernel_rfl) hS ?_ ?_
        rotate_left
        · (intro w hSw; (try dsimp only at hSw); go_simp; try rfl)
        try simp only [Act.put, List.setIfInBounds_toArray, List.set_cons_zero, List.set_cons_succ]
        refine late_take (i := 5) (v := ?_) (some 93) rfl rfl (by kernel_rfl) (by kernel_rfl) (by kernel_rfl) (by kernel_rfl) (fun _ _ _ h => h) (by kernel_rfl) hS ?_ ?_
        rotate_left
        · (intro w hSw; (try dsimp only at hSw); go_simp; try rfl)
        try simp only [Act.put, List.setIfInBounds_toArray, List.set_cons_zero, List.set_cons_succ]
        refine late_take (i := 6) (v := ?_) (some 94) rfl rfl (by kernel_rfl) (by kernel_rfl) (by kernel_rfl) (by kernel_rfl) (fun _ _ _ h => h) (by kernel_rfl) hS ?_ ?_
        rotate_left
        · (intro w hSw; (try dsimp only at hSw); go_simp; try rfl)
        try simp only [Act.put, List.setIfInBounds_toArray, List.set_cons_zero, List.set_cons_succ]
        refine late_take (i := 7) (v := ?_) (some 95) rfl rfl (by kernel_rfl) (by kernel_rfl) (by kernel_rfl) (by kernel_rfl) (fun _ _ _ h => h) (by kernel_rfl) hS ?_ ?_
        rotate_left
        · (intro w hSw; (try dsimp only at hSw); go_simp; try rfl)
        try simp only [Act.put, List.setIfInBounds_toArray, List.set_cons_zero, List.set_cons_succ]
        refine late_take (i := 8) (v := ?_) (some 96) rfl rfl (by kernel_rfl) (by kernel_rfl) (by kernel_rfl) (by kernel_rfl) (fun _ _ _ h => h) (by kernel_rfl) hS ?_ ?_
        rotate_left
        · (intro w hSw; (try dsimp only at hSw); go_simp; try rfl)
        try simp only [Act.put, List.setIfInBounds_toArray, List.set_cons_zero, List.set_cons_succ]
        refine late_skip (i := 9) (some 97) rfl rfl (by kernel_rfl) (by kernel_rfl) (by kernel_rfl) (by kernel_rfl) (fun _ _ _ h => h) (by kernel_rfl) hS ?_
        try simp only [Act.put, List.setIfInBounds_toArray, List.set_cons_zero, List.set_cons_succ]
        refine late_skip (i := 10) (some 98) rfl rfl (by kernel_rfl) (by kernel_rfl) (by kernel_rfl) (by kernel_rfl) (fun _ _ _ h => h) (by kernel_rfl) hS ?_
        try simp only [Act.put, List.setIfInBounds_toArray, List.set_cons_zero, List.set_cons_succ]
        refine late_skip (i := 11) (some 99) rfl rfl (by kernel_rfl) (by kernel_rfl) (by kernel_rfl) (by kernel_rfl) (fun _ _ _ h => h) (by kernel_rfl) hS ?_
        try simp only [Act.put, List.setIfInBounds_toArray, List.set_cons_zero, List.set_cons_succ]
        refine late_skip (i := 12) (some 100) rfl rfl (by kernel_rfl) (by kernel_rfl) (by kernel_rfl) (by kernel_rfl) (fun _ _ _ h => h) (by kernel_rfl) hS ?_
        try simp only [Act.put, List.setIfInBounds_toArray, List.set_cons_zero, List.set_cons_succ]
        refine late_skip (i := 13) (some 101) rfl rfl (by kernel_rfl) (by kernel_rfl) (by kernel_rfl) (by kernel_rfl) (fun _ _ _ h => h) (by kernel_rfl) hS ?_
        try simp only [Act.put, List.setIfInBounds_toArray, List.set_cons_zero, List.set_cons_succ]
        refine late_take (i := 14) (v := ?_) (some 102) rfl rfl (by kernel_rfl) (by kernel_rfl) (by kernel_rfl) (by kernel_rfl) (fun _ _ _ h => h) (by kernel_rfl) hS ?_ ?_
        rotate_left
        · (intro w hSw; (try dsimp only at hSw); go_simp; try rfl)
        try simp only [Act.put, List.setIfInBounds_toArray, List.set_cons_zero, List.set_cons_succ]
        refine late_take (i := 15) (v := ?_) (some 103) rfl rfl (by kernel_rfl) (by kernel_rfl) (by kernel_rfl) (by kernel_rfl) (fun _ _ _ h => h) (by kernel_rfl) hS ?_ ?_
        rotate_left
        · (intro w hSw; (try dsimp only at hSw); go_simp; try rfl)
        try simp only [Act.put, List.setIfInBounds_toArray, List.set_cons_zero, List.set_cons_succ]
        refine late_take (i := 16) (v := ?_) (some 104) rfl rfl (by kernel_rfl) (by kernel_rfl) (by kernel_rfl) (by kernel_rfl) (fun _ _ _ h => h) (by kernel_rfl) hS ?_ ?_
        rotate_left
        · (intro w hSw; (try dsimp only at hSw); go_simp; try rfl)
        try simp only [Act.put, List.setIfInBounds_toArray, List.set_cons_zero, List.set_cons_succ]
        refine late_take (i := 17) (v := ?_) (some 105) rfl rfl (by kernel_rfl) (by kernel_rfl) (by kernel_rfl) (by kernel_rfl) (fun _ _ _ h => h) (by kernel_rfl) hS ?_ ?_
        rotate_left
        · (intro w hSw; (try dsimp only at hSw); go_simp; try rfl)
        try simp only [Act.put, List.setIfInBounds_toArray, List.set_cons_zero, List.set_cons_succ]
        refine late_take (i := 18) (v := ?_) (some 106) rfl rfl (by kernel_rfl) (by kernel_rfl) (by kernel_rfl) (by kernel_rfl) (fun _ _ _ h => h) (by kernel_rfl) hS ?_ ?_
        rotate_left
        · (intro w hSw; (try dsimp only at hSw); go_simp; try rfl)
        try simp only [Act.put, List.setIfInBounds_toArray, List.set_cons_zero, List.set_cons_succ]
        refine late_take (i := 19) (v := ?_) (some 107) rfl rfl (by kernel_rfl) (by kernel_rfl) (by kernel_rfl) (by kernel_rfl) (fun _ _ _ h => h) (by kernel_rfl) hS ?_ ?_
        rotate_left
        · (intro w hSw; (try dsimp only at hSw); go_simp; try rfl)
        try simp only [Act.put, List.setIfInBounds_toArray, List.set_cons_zero, List.set_cons_succ]
        refine late_take (i := 21) (v := ?_) (some 109) rfl rfl (by kernel_rfl) (by kernel_rfl) (by kernel_rfl) (by kernel_rfl) (fun _ _ _ h => h) (by kernel_rfl) hS ?_ ?_
        rotate_left
        · (intro w hSw; (try dsimp only at hSw); go_simp; try rfl)
        try simp only [Act.put, List.setIfInBounds_toArray, List.set_cons_zero, List.set_cons_succ]
        refine late_one (i := 20) rfl (by kernel_rfl) ?_
        intro K hK
        go_simp
        refine (hvb _).mono ?_
        rintro e w5 ⟨n5, A5, x5, k5, E5, rfl, hm5, b5⟩
        have c5 := b5
        try show K _ _
        refine hK.out _ _ (Or.inr (HS'.out _ c5)) ?_
        clear hK K
        try simp only [Act.put, List.setIfInBounds_toArray, List.set_cons_zero, List.set_cons_succ]
        refine late_one (i := 22) rfl (by kernel_rfl) ?_
        intro K hK
        go_simp
        refine (Cmp_sg _ _ _ _ _ _ _ _ _ _ hm5 (hnd.below c5) (cap2 _ _ (fz_cap _ hbe) (by rw [Int.natAbs_neg]; exact hzl)) hsb).mono ?_
        rintro e w6 ⟨rfl, b6⟩
        have c6 := c5.trans (b6.mono c5.size)
        try show K _ _
        refine hK.out _ _ (Or.inr (HS'.out _ c6)) ?_
        clear hK K
        try simp only [Act.put, List.setIfInBounds_toArray, List.set_cons_zero, List.set_cons_succ]
        refine late_take (i := 23) (v := ?_) (some 111) rfl rfl (by kernel_rfl) (by kernel_rfl) (by kernel_rfl) (by kernel_rfl) (fun _ _ _ h => h) (by kernel_rfl) (HS'.out _ c6) ?_ ?_
        rotate_left
        · (intro w hSw; (try dsimp only at hSw); go_simp; try rfl)
        try simp only [Act.put, List.setIfInBounds_toArray, List.set_cons_zero, List.set_cons_succ]
        refine late_take (i := 24) (v := ?_) (some 112) rfl rfl (by kernel_rfl) (by kernel_rfl) (by kernel_rfl) (by kernel_rfl) (fun _ _ _ h => h) (by kernel_rfl) (HS'.out _ c6) ?_ ?_
        rotate_left
        · (intro w hSw; (try dsimp only at hSw); go_simp; try rfl)
        try simp only [Act.put, List.setIfInBounds_toArray, List.set_cons_zero, List.set_cons_succ]
        refine late_take (i := 25) (v := ?_) (some 113) rfl rfl (by kernel_rfl) (by kernel_rfl) (by kernel_rfl) (by kernel_rfl) (fun _ _ _ h => h) (by kernel_rfl) (HS'.out _ c6) ?_ ?_
        rotate_left
        · (intro w hSw; (try dsimp only at hSw); go_simp; try rfl)
        try simp only [Act.put, List.setIfInBounds_toArray, List.set_cons_zero, List.set_cons_succ]
        refine late_done (by kernel_rfl) ?_ _
        clear hsb hS HS' hnd hm5 hr' hnv qv tg b5 b6 c5 hvb hbe hbB hb0 hle hgb hzl
        have hfl := float_nat 9218868437227405311
        go_upto_region 20 with (refine (hfl _).mono ?_; rintro e w7 ⟨rfl, rfl⟩)
        rcases HR.out with hR0 | hR0
        all_goals clear HR
        all_goals injection hR0 with e1 e2
        all_goals subst e1
        all_goals subst e2
        all_goals go_wp2_with fail
        all_goals go_ret
        all_goals exact ⟨rfl, hbel.trans (c6.mono hbel.size)⟩
      · obtain ⟨a, b, c, rfl, rfl, rfl, hza, hzb, hna, hnb, hcase⟩ := hB
        have HC := Lib.hid hcase
        clear hcase
        obtain ⟨hae, haB, ha0⟩ := hna
        have hva := fun w' => value_num w' a haB hae
        have hbta := bits_nat a
        have hoa : (FloatKind.f64.format.order a a == some .eq) = true := by rw [order_same _ hae]; rfl
        have hal : ((a : Nat) : Int) ≤ 18446744073709551615 := by unfold B64 at haB; omega
        obtain ⟨sa, hsa⟩ : ∃ s, (fz a + -z).sign = s := ⟨_, rfl⟩
        have hga : decide ((0 : Int) < sa) = false := by rw [← hsa]; exact decide_eq_false (sign_le hza)
        obtain ⟨hbe, hbB, hb0⟩ := hnb
        have hvb := fun w' => value_num w' b hbB hbe
        have hbtb := bits_nat b
        have hob : (FloatKind.f64.format.order b b == some .eq) = true := by rw [order_same _ hbe]; rfl
        have hbl : ((b : Nat) : Int) ≤ 18446744073709551615 := by unfold B64 at hbB; omega
        obtain ⟨sb, hsb⟩ : ∃ s, (fz b + -z).sign = s := ⟨_, rfl⟩
        have hgb : decide (sb < (0 : Int)) = false := by rw [← hsb]; exact decide_eq_false (sign_ge hzb)
        go_wp2_with fail
        refine (hr2 _ hr.ax).mono ?_
        rintro e w2 ⟨rfl, b2⟩
        have hr' := hr.mono b2
        clear hr b2 hr2
        go_wp2_with fail
        refine (hr1 _ hr'.ax).mono ?_
        rintro e w3 ⟨rfl, b3⟩
        have hr := hr'.mono b3
        clear hr' b3 hr1
        go_wp2_with fail
        refine (hr0 _ hr.ax).mono ?_
        rintro e w4 ⟨rfl, b4⟩
        have hr' := hr.mono b4
        clear hr b4 hr0
        go_upto_region 16 with fail
        obtain ⟨ng, Av, cv, kv, Ev, qv, hnv⟩ := hr'.nv
        obtain ⟨v0, v1, v2⟩ := cells3 (w := w4.drew) qv
        have tg : gv < w4.drew.heap.size := hr'.nv.lt
        have HS : ∀ w' : World, Below w4.drew.heap.size w4.drew w' → (w'.cell? ⟨gv, 0, none⟩ = some (.bool ng) ∧ w'.cell? ⟨gv, 1, none⟩ = some (.slice Av cv kv) ∧ w'.cell? ⟨gv, 2, none⟩ = some (.int .i64 Ev)) := fun w' hb => ⟨(hb.cell tg).trans v0, (hb.cell tg).trans v1, (hb.cell tg).trans v2⟩
        have hS := HS _ (Below.refl _ w4.drew)
        have HS' := Lib.hid HS
        have hnd : NumIs w4.drew ng (.slice Av cv kv) Ev z := hnv.below (Below.refl _ w4).drew
        have hbel : Below w.heap.size w w4.drew := hr'.below.drew
        clear HS v0 v1 v2
        refine late_begin (fun w' => w'.cell? ⟨gv, 0, none⟩ = some (.bool ng) ∧ w'.cell? ⟨gv, 1, none⟩ = some (.slice Av cv kv) ∧ w'.cell? ⟨gv, 2, none⟩ = some (.int .i64 Ev)) [] (by kernel_rfl) ?_
        refine late_take (i := 0) (v := ?_) (some 88) rfl rfl (by kernel_rfl) (by kernel_rfl) (by kernel_rfl) (by kernel_rfl) (fun _ _ _ h => h) (by kernel_rfl) hS ?_ ?_
        rotate_left
        · (intro w hSw; (try dsimp only at hSw); go_simp; try rfl)
        try simp only [Act.put, List.setIfInBounds_toArray, List.set_cons_zero, List.set_cons_succ]
        refine late_take (i := 1) (v := ?_) (some 89) rfl rfl (by kernel_rfl) (by kernel_rfl) (by kernel_rfl) (by kernel_rfl) (fun _ _ _ h => h) (by kernel_rfl) hS ?_ ?_
        rotate_left
        · (intro w hSw; (try dsimp only at hSw); go_simp; try rfl)
        try simp only [Act.put, List.setIfInBounds_toArray, List.set_cons_zero, List.set_cons_succ]
        refine late_take (i := 2) (v := ?_) (some 90) rfl rfl (by kernel_rfl) (by kernel_rfl) (by kernel_rfl) (by kernel_rfl) (fun _ _ _ h => h) (by kernel_rfl) hS ?_ ?_
        rotate_left
        · (intro w hSw; (try dsimp only at hSw); go_simp; try rfl)
        try simp only [Act.put, List.setIfInBounds_toArray, List.set_cons_zero, List.set_cons_succ]
        refine late_skip (i := 3) (some 91) rfl rfl (by kernel_rfl) (by kernel_rfl) (by kernel_rfl) (by kernel_rfl) (fun _ _ _ h => h) (by kernel_rfl) hS ?_
        try simp only [Act.put, List.setIfInBounds_toArray, List.set_cons_zero, List.set_cons_succ]
        refine late_skip (i := 4) (some 92) rfl rfl (by kernel_rfl) (by kernel_rfl) (by kernel_rfl) (by kernel_rfl) (fun _ _ _ h => h) (by kernel_rfl) hS ?_
        try simp only [Act.put, List.setIfInBounds_toArray, List.set_cons_zero, List.set_cons_succ]
        refine late_take (i := 5) (v := ?_) (some 93) rfl rfl (by kernel_rfl) (by kernel_rfl) (by kernel_rfl) (by kernel_rfl) (fun _ _ _ h => h) (by kernel_rfl) hS ?_ ?_
        rotate_left
        · (intro w hSw; (try dsimp only at hSw); go_simp; try rfl)
        try simp only [Act.put, List.setIfInBounds_toArray, List.set_cons_zero, List.set_cons_succ]
        refine late_take (i := 6) (v := ?_) (some 94) rfl rfl (by kernel_rfl) (by kernel_rfl) (by kernel_rfl) (by kernel_rfl) (fun _ _ _ h => h) (by kernel_rfl) hS ?_ ?_
        rotate_left
        · (intro w hSw; (try dsimp only at hSw); go_simp; try rfl)
        try simp only [Act.put, List.setIfInBounds_toArray, List.set_cons_zero, List.set_cons_succ]
        refine late_take (i := 7) (v := ?_) (some 95) rfl rfl (by kernel_rfl) (by kernel_rfl) (by kernel_rfl) (by kernel_rfl) (fun _ _ _ h => h) (by kernel_rfl) hS ?_ ?_
        rotate_left
        · (intro w hSw; (try dsimp only at hSw); go_simp; try rfl)
        try simp only [Act.put, List.setIfInBounds_toArray, List.set_cons_zero, List.set_cons_succ]
        refine late_take (i := 8) (v := ?_) (some 96) rfl rfl (by kernel_rfl) (by kernel_rfl) (by kernel_rfl) (by kernel_rfl) (fun _ _ _ h => h) (by kernel_rfl) hS ?_ ?_
        rotate_left
        · (intro w hSw; (try dsimp only at hSw); go_simp; try rfl)
        try simp only [Act.put, List.setIfInBounds_toArray, List.set_cons_zero, List.set_cons_succ]
        refine late_take (i := 9) (v := ?_) (some 97) rfl rfl (by kernel_rfl) (by kernel_rfl) (by kernel_rfl) (by kernel_rfl) (fun _ _ _ h => h) (by kernel_rfl) hS ?_ ?_
        rotate_left
        · (intro w hSw; (try dsimp only at hSw); go_simp; try rfl)
        try simp only [Act.put, List.setIfInBounds_toArray, List.set_cons_zero, List.set_cons_succ]
        refine late_take (i := 11) (v := ?_) (some 99) rfl rfl (by kernel_rfl) (by kernel_rfl) (by kernel_rfl) (by kernel_rfl) (fun _ _ _ h => h) (by kernel_rfl) hS ?_ ?_
        rotate_left
        · (intro w hSw; (try dsimp only at hSw); go_simp; try rfl)
        try simp only [Act.put, List.setIfInBounds_toArray, List.set_cons_zero, List.set_cons_succ]
        refine late_one (i := 10) rfl (by kernel_rfl) ?_
        intro K hK
        go_simp
        refine (hva _).mono ?_
        rintro e w5 ⟨n5, A5, x5, k5, E5, rfl, hm5, b5⟩
        have c5 := b5
        try show K _ _
        refine hK.out _ _ (Or.inr (HS'.out _ c5)) ?_
        clear hK K
        try simp only [Act.put, List.setIfInBounds_toArray, List.set_cons_zero, List.set_cons_succ]
        refine late_one (i := 12) rfl (by kernel_rfl) ?_
        intro K hK
        go_simp
        refine (Cmp_sg _ _ _ _ _ _ _ _ _ _ hm5 (hnd.below c5) (cap2 _ _ (fz_cap _ hae) (by rw [Int.natAbs_neg]; exact hzl)) hsa).mono ?_
        rintro e w6 ⟨rfl, b6⟩
        have c6 := c5.trans (b6.mono c5.size)
        try show K _ _
        refine hK.out _ _ (Or.inr (HS'.out _ c6)) ?_
        clear hK K
        try simp only [Act.put, List.setIfInBounds_toArray, List.set_cons_zero, List.set_cons_succ]
        refine late_take (i := 13) (v := ?_) (some 101) rfl rfl (by kernel_rfl) (by kernel_rfl) (by kernel_rfl) (by kernel_rfl) (fun _ _ _ h => h) (by kernel_rfl) (HS'.out _ c6) ?_ ?_
        rotate_left
        · (intro w hSw; (try dsimp only at hSw); go_simp; try rfl)
        try simp only [Act.put, List.setIfInBounds_toArray, List.set_cons_zero, List.set_cons_succ]
        refine late_take (i := 14) (v := ?_) (some 102) rfl rfl (by kernel_rfl) (by kernel_rfl) (by kernel_rfl) (by kernel_rfl) (fun _ _ _ h => h) (by kernel_rfl) (HS'.out _ c6) ?_ ?_
        rotate_left
        · (intro w hSw; (try dsimp only at hSw); go_simp; try rfl)
        try simp only [Act.put, List.setIfInBounds_toArray, List.set_cons_zero, List.set_cons_succ]
        refine late_take (i := 15) (v := ?_) (some 103) rfl rfl (by kernel_rfl) (by kernel_rfl) (by kernel_rfl) (by kernel_rfl) (fun _ _ _ h => h) (by kernel_rfl) (HS'.out _ c6) ?_ ?_
        rotate_left
        · (intro w hSw; (try dsimp only at hSw); go_simp; try rfl)
        try simp only [Act.put, List.setIfInBounds_toArray, List.set_cons_zero, List.set_cons_succ]
        refine late_take (i := 16) (v := ?_) (some 104) rfl rfl (by kernel_rfl) (by kernel_rfl) (by kernel_rfl) (by kernel_rfl) (fun _ _ _ h => h) (by kernel_rfl) (HS'.out _ c6) ?_ ?_
        rotate_left
        · (intro w hSw; (try dsimp only at hSw); go_simp; try rfl)
        try simp only [Act.put, List.setIfInBounds_toArray, List.set_cons_zero, List.set_cons_succ]
        refine late_take (i := 17) (v := ?_) (some 105) rfl rfl (by kernel_rfl) (by kernel_rfl) (by kernel_rfl) (by kernel_rfl) (fun _ _ _ h => h) (by kernel_rfl) (HS'.out _ c6) ?_ ?_
        rotate_left
        · (intro w hSw; (try dsimp only at hSw); go_simp; try rfl)
        try simp only [Act.put, List.setIfInBounds_toArray, List.set_cons_zero, List.set_cons_succ]
        refine late_take (i := 18) (v := ?_) (some 106) rfl rfl (by kernel_rfl) (by kernel_rfl) (by kernel_rfl) (by kernel_rfl) (fun _ _ _ h => h) (by kernel_rfl) (HS'.out _ c6) ?_ ?_
        rotate_left
        · (intro w hSw; (try dsimp only at hSw); go_simp; try rfl)
        try simp only [Act.put, List.setIfInBounds_toArray, List.set_cons_zero, List.set_cons_succ]
        refine late_take (i := 19) (v := ?_) (some 107) rfl rfl (by kernel_rfl) (by kernel_rfl) (by kernel_rfl) (by kernel_rfl) (fun _ _ _ h => h) (by kernel_rfl) (HS'.out _ c6) ?_ ?_
        rotate_left
        · (intro w hSw; (try dsimp only at hSw); go_simp; try rfl)
        try simp only [Act.put, List.setIfInBounds_toArray, List.set_cons_zero, List.set_cons_succ]
        refine late_take (i := 21) (v := ?_) (some 109) rfl rfl (by kernel_rfl) (by kernel_rfl) (by kernel_rfl) (by kernel_rfl) (fun _ _ _ h => h) (by kernel_rfl) (HS'.out _ c6) ?_ ?_
        rotate_left
        · (intro w hSw; (try dsimp only at hSw); go_simp; try rfl)
        try simp only [Act.put, List.setIfInBounds_toArray, List.set_cons_zero, List.set_cons_succ]
        refine late_one (i := 20) rfl (by kernel_rfl) ?_
        intro K hK
        go_simp
        refine (hvb _).mono ?_
        rintro e w7 ⟨n7, A7, x7, k7, E7, rfl, hm7, b7⟩
        have c7 := c6.trans (b7.mono c6.size)
        try show K _ _
        refine hK.out _ _ (Or.inr (HS'.out _ c7)) ?_
        clear hK K
        try simp only [Act.put, List.setIfInBounds_toArray, List.set_cons_zero, List.set_cons_succ]
        refine late_one (i := 22) rfl (by kernel_rfl) ?_
        intro K hK
        go_simp
        refine (Cmp_sg _ _ _ _ _ _ _ _ _ _ hm7 (hnd.below c7) (cap2 _ _ (fz_cap _ hbe) (by rw [Int.natAbs_neg]; exact hzl)) hsb).mono ?_
        rintro e w8 ⟨rfl, b8⟩
        have c8 := c7.trans (b8.mono c7.size)
        try show K _ _
        refine hK.out _ _ (Or.inr (HS'.out _ c8)) ?_
        clear hK K
        try simp only [Act.put, List.setIfInBounds_toArray, List.set_cons_zero, List.set_cons_succ]
        refine late_take (i := 23) (v := ?_) (some 111) rfl rfl (by kernel_rfl) (by kernel_rfl) (by kernel_rfl) (by kernel_rfl) (fun _ _ _ h => h) (by kernel_rfl) (HS'.out _ c8) ?_ ?_
        rotate_left
        · (intro w hSw; (try dsimp only at hSw); go_simp; try rfl)
        try simp only [Act.put, List.setIfInBounds_toArray, List.set_cons_zero, List.set_cons_succ]
        refine late_take (i := 24) (v := ?_) (some 112) rfl rfl (by kernel_rfl) (by kernel_rfl) (by kernel_rfl) (by kernel_rfl) (fun _ _ _ h => h) (by kernel_rfl) (HS'.out _ c8) ?_ ?_
        rotate_left
        · (intro w hSw; (try dsimp only at hSw); go_simp; try rfl)
        try simp only [Act.put, List.setIfInBounds_toArray, List.set_cons_zero, List.set_cons_succ]
        refine late_take (i := 25) (v := ?_) (some 113) rfl rfl (by kernel_rfl) (by kernel_rfl) (by kernel_rfl) (by kernel_rfl) (fun _ _ _ h => h) (by kernel_rfl) (HS'.out _ c8) ?_ ?_
        rotate_left
        · (intro w hSw; (try dsimp only at hSw); go_simp; try rfl)
        try simp only [Act.put, List.setIfInBounds_toArray, List.set_cons_zero, List.set_cons_succ]
        refine late_done (by kernel_rfl) ?_ _
        go_upto_region 21 with fail
        have hn8 : NumIs w8.drew ng (.slice Av cv kv) Ev z := (hnd.below c8).below (Below.refl _ w8).drew
        have tg8 : gv < w8.drew.heap.size := Nat.lt_of_lt_of_le tg c8.size
        have qv8 : w8.drew.heap[gv]? = some (.cells #[.bool ng, .slice Av cv kv, .int .i64 Ev] 29 (0, 0)) := (c8.block gv tg).trans qv
        have hbel8 : Below w.heap.size w w8.drew := (hbel.trans (c8.mono hbel.size)).drew
        clear hS HS' hnd hm5 hm7 hr' hnv qv tg b5 b6 b7 b8 c5 c6 c7 c8 hsa hsb hga hgb hbel
        refine inv_ten 150 151 152 153 154 155 156 157 17 18 undef undef undef undef undef undef undef undef undef undef (fun L u150 u151 u152 u153 u154 u155 u156 u157 u17 u18 w' => R21 w8.drew (.agg #[.bool ng, .slice Av cv kv, .int .i64 Ev]) a b z L u150 u151 u152 u153 u154 u155 u156 u157 u17 u18 w') (by kernel_rfl) (by kernel_rfl) ?_ ⟨Below.refl _ _, fun h => h.elim, fun h => h.elim, fun h => h.elim, fun h => h.elim, fun h => h.elim, fun h => h.elim, fun h => h.elim, fun h => h.elim, fun h => h.elim, fun h => h.elim, fun h => h.elim, fun h => h.elim, fun h => h.elim, fun h => h.elim False.elim False.elim⟩ ?_ ?_
        · simp only [putAll, List.zip_cons_cons, List.zip_nil_left, List.zip_nil_right, Act.put, List.setIfInBounds_toArray, List.set_cons_zero, List.set_cons_succ]
        · refine ⟨?_, ?_, ?_, ?_, ?_, ?_, ?_, ?_, ?_, ?_, ?_, ?_, trivial⟩
          · intro L u150 u151 u152 u153 u154 u155 u156 u157 u17 u18 w' hR hdep hni
            simp only [putAll, List.zip_cons_cons, List.zip_nil_left, List.zip_nil_right, Act.put, List.setIfInBounds_toArray, List.set_cons_zero, List.set_cons_succ]
            intro K hK
            obtain ⟨y0, y1, y2⟩ := cells3 ((hR.below.block gv tg8).trans qv8)
            go_simp
            try show K _ _
            exact hK.out (.agg #[.bool ng, .slice Av cv kv, .int .i64 Ev]) u151 u152 u153 u154 u155 u156 u157 u17 u18 _ (hR.n0)
          · intro L u150 u151 u152 u153 u154 u155 u156 u157 u17 u18 w' hR hdep hni
            simp only [putAll, List.zip_cons_cons, List.zip_nil_left, List.zip_nil_right, Act.put, List.setIfInBounds_toArray, List.set_cons_zero, List.set_cons_succ]
            intro K hK
            go_simp
            try show K _ _
            exact hK.out u150 (.float .f64 a) u152 u153 u154 u155 u156 u157 u17 u18 _ (hR.n1)
          · intro L u150 u151 u152 u153 u154 u155 u156 u157 u17 u18 w' hR hdep hni
            simp only [putAll, List.zip_cons_cons, List.zip_nil_left, List.zip_nil_right, Act.put, List.setIfInBounds_toArray, List.set_cons_zero, List.set_cons_succ]
            intro K hK
            have d1 : L 1 := hdep ⟨1, .data⟩ (by simp) rfl
            obtain rfl := hR.f1 d1
            go_simp
            refine (hva _).mono ?_
            rintro e w'' ⟨n5, A5, x5, k5, E5, rfl, hm5, b5⟩
            try show K _ _
            exact hK.out u150 (.float .f64 a) (.agg #[.bool n5, .slice A5 x5 k5, .int .i64 E5]) u153 u154 u155 u156 u157 u17 u18 _ ((hR.mono b5).n2 ⟨_, _, _, _, _, rfl, hm5⟩)
          · intro L u150 u151 u152 u153 u154 u155 u156 u157 u17 u18 w' hR hdep hni
            simp only [putAll, List.zip_cons_cons, List.zip_nil_left, List.zip_nil_right, Act.put, List.setIfInBounds_toArray, List.set_cons_zero, List.set_cons_succ]
            intro K hK
            have d0 : L 0 := hdep ⟨0, .data⟩ (by simp) rfl
            have d2 : L 2 := hdep ⟨2, .data⟩ (by simp) rfl
            obtain rfl := hR.f0 d0
            obtain ⟨n2, A2, x2, k2, E2, rfl, hm2⟩ := hR.f2 d2
            go_simp
            refine (Minus_num _ _ _ _ _ _ _ z (fz a) (hn8.below hR.below) hm2 (cap2 _ _ hzl (by rw [Int.natAbs_neg]; exact fz_cap _ hae))).mono ?_
            rintro e w'' ⟨n5, A5, x5, k5, E5, rfl, hm5, b5⟩
            try show K _ _
            exact hK.out (.agg #[.bool ng, .slice Av cv kv, .int .i64 Ev]) u151 (.agg #[.bool n2, .slice A2 x2 k2, .int .i64 E2]) (.agg #[.bool n5, .slice A5 x5 k5, .int .i64 E5]) u154 u155 u156 u157 u17 u18 _ ((hR.mono b5).n3 ⟨_, _, _, _, _, rfl, hm5⟩)
          · intro L u150 u151 u152 u153 u154 u155 u156 u157 u17 u18 w' hR hdep hni
            simp only [putAll, List.zip_cons_cons, List.zip_nil_left, List.zip_nil_right, Act.put, List.setIfInBounds_toArray, List.set_cons_zero, List.set_cons_succ]
            intro K hK
            go_simp
            try show K _ _
            exact hK.out u150 u151 u152 u153 (.float .f64 b) u155 u156 u157 u17 u18 _ (hR.n4)
          · intro L u150 u151 u152 u153 u154 u155 u156 u157 u17 u18 w' hR hdep hni
            simp only [putAll, List.zip_cons_cons, List.zip_nil_left, List.zip_nil_right, Act.put, List.setIfInBounds_toArray, List.set_cons_zero, List.set_cons_succ]
            intro K hK
            have d4 : L 4 := hdep ⟨4, .data⟩ (by simp) rfl
            obtain rfl := hR.f4 d4
            go_simp
            refine (hvb _).mono ?_
            rintro e w'' ⟨n5, A5, x5, k5, E5, rfl, hm5, b5⟩
            try show K _ _
            exact hK.out u150 u151 u152 u153 (.float .f64 b) (.agg #[.bool n5, .slice A5 x5 k5, .int .i64 E5]) u156 u157 u17 u18 _ ((hR.mono b5).n5 ⟨_, _, _, _, _, rfl, hm5⟩)
          · intro L u150 u151 u152 u153 u154 u155 u156 u157 u17 u18 w' hR hdep hni
            simp only [putAll, List.zip_cons_cons, List.zip_nil_left, List.zip_nil_right, Act.put, List.setIfInBounds_toArray, List.set_cons_zero, List.set_cons_succ]
            intro K hK
            obtain ⟨y0, y1, y2⟩ := cells3 ((hR.below.block gv tg8).trans qv8)
            go_simp
            try show K _ _
            exact hK.out u150 u151 u152 u153 u154 u155 (.agg #[.bool ng, .slice Av cv kv, .int .i64 Ev]) u157 u17 u18 _ (hR.n6)
          · intro L u150 u151 u152 u153 u154 u155 u156 u157 u17 u18 w' hR hdep hni
            simp only [putAll, List.zip_cons_cons, List.zip_nil_left, List.zip_nil_right, Act.put, List.setIfInBounds_toArray, List.set_cons_zero, List.set_cons_succ]
            intro K hK
            have d6 : L 6 := hdep ⟨6, .data⟩ (by simp) rfl
            have d5 : L 5 := hdep ⟨5, .data⟩ (by simp) rfl
            obtain rfl := hR.f6 d6
            obtain ⟨n2, A2, x2, k2, E2, rfl, hm2⟩ := hR.f5 d5
            go_simp
            refine (Minus_num _ _ _ _ _ _ _ (fz b) z hm2 (hn8.below hR.below) (cap2 _ _ (fz_cap _ hbe) (by rw [Int.natAbs_neg]; exact hzl))).mono ?_
            rintro e w'' ⟨n5, A5, x5, k5, E5, rfl, hm5, b5⟩
            try show K _ _
            exact hK.out u150 u151 u152 u153 u154 (.agg #[.bool n2, .slice A2 x2 k2, .int .i64 E2]) (.agg #[.bool ng, .slice Av cv kv, .int .i64 Ev]) (.agg #[.bool n5, .slice A5 x5 k5, .int .i64 E5]) u17 u18 _ ((hR.mono b5).n7 ⟨_, _, _, _, _, rfl, hm5⟩)
          · intro L u150 u151 u152 u153 u154 u155 u156 u157 u17 u18 w' hR hdep hni
            simp only [putAll, List.zip_cons_cons, List.zip_nil_left, List.zip_nil_right, Act.put, List.setIfInBounds_toArray, List.set_cons_zero, List.set_cons_succ]
            intro K hK
            go_simp
            try show K _ _
            exact hK.out u150 u151 u152 u153 u154 u155 u156 u157 (.pointer (some ⟨w'.heap.size, 0, none⟩)) u18 _ (hR.n8 hni)
          · intro L u150 u151 u152 u153 u154 u155 u156 u157 u17 u18 w' hR hdep hni
            simp only [putAll, List.zip_cons_cons, List.zip_nil_left, List.zip_nil_right, Act.put, List.setIfInBounds_toArray, List.set_cons_zero, List.set_cons_succ]
            intro K hK
            go_simp
            try show K _ _
            exact hK.out u150 u151 u152 u153 u154 u155 u156 u157 u17 (.pointer (some ⟨w'.heap.size, 0, none⟩)) _ (hR.n9 hni)
          · intro L u150 u151 u152 u153 u154 u155 u156 u157 u17 u18 w' hR hdep hni
            simp only [putAll, List.zip_cons_cons, List.zip_nil_left, List.zip_nil_right, Act.put, List.setIfInBounds_toArray, List.set_cons_zero, List.set_cons_succ]
            intro K hK
            have d8 : L 8 := hdep ⟨8, .phase⟩ (by simp) rfl
            have d9 : L 9 := hdep ⟨9, .phase⟩ (by simp) rfl
            have d3 : L 3 := hdep ⟨3, .data⟩ (by simp) rfl
            obtain ⟨p, rfl, hWp, hpl, x0, x1, x2, hq⟩ := hR.f8 d8
            obtain ⟨n2, A2, x3, k2, E2, rfl, hm2⟩ := hR.f3 d3
            obtain ⟨y0, y1, y2⟩ := cells3 hq
            have hfr : ∀ j, w'.frozen? ⟨p, j, none⟩ = false := fun j => frozen_of_row w' _ j _ _ hq
            go_simp
            try show K _ _
            exact hK.out u150 u151 u152 (.agg #[.bool n2, .slice A2 x3 k2, .int .i64 E2]) u154 u155 u156 u157 (.pointer (some ⟨p, 0, none⟩)) u18 _ (hR.n10 rfl hWp hq hm2 d8 d9)
          · intro L u150 u151 u152 u153 u154 u155 u156 u157 u17 u18 w' hR hdep hni
            simp only [putAll, List.zip_cons_cons, List.zip_nil_left, List.zip_nil_right, Act.put, List.setIfInBounds_toArray, List.set_cons_zero, List.set_cons_succ]
            intro K hK
            have d8 : L 8 := hdep ⟨8, .phase⟩ (by simp) rfl
            have d9 : L 9 := hdep ⟨9, .phase⟩ (by simp) rfl
            have d7 : L 7 := hdep ⟨7, .data⟩ (by simp) rfl
            obtain ⟨p, rfl, hWp, hpl, x0, x1, x2, hq⟩ := hR.f9 d9
            obtain ⟨n2, A2, x3, k2, E2, rfl, hm2⟩ := hR.f7 d7
            obtain ⟨y0, y1, y2⟩ := cells3 hq
            have hfr : ∀ j, w'.frozen? ⟨p, j, none⟩ = false := fun j => frozen_of_row w' _ j _ _ hq
            go_simp
            try show K _ _
            exact hK.out u150 u151 u152 u153 u154 u155 u156 (.agg #[.bool n2, .slice A2 x3 k2, .int .i64 E2]) u17 (.pointer (some ⟨p, 0, none⟩)) _ (hR.n11 rfl hWp hq hm2 d8 d9)
        · intro L u150 u151 u152 u153 u154 u155 u156 u157 u17 u18 w' hL hR
          obtain ⟨p, rfl, hp⟩ := hR.f10 (hL 10 (by decide))
          obtain ⟨q, rfl, hq⟩ := hR.f11 (hL 11 (by decide))
          have hbel9 := hbel8.trans (hR.below.mono hbel8.size)
          obtain ⟨np, Ap, xp, kp, Ep, qp, hnp⟩ := hp
          obtain ⟨nq, Aq, xq, kq, Eq, qq, hnq⟩ := hq
          obtain ⟨p0, p1, p2⟩ := cells3 qp
          obtain ⟨q0, q1, q2⟩ := cells3 qq
          clear hR hL hn8 tg8 qv8 hbel8 hva hvb
          simp only [putAll, List.zip_cons_cons, List.zip_nil_left, List.zip_nil_right, Act.put, List.setIfInBounds_toArray, List.set_cons_zero, List.set_cons_succ]
          have hsg := fun w1 (h : Below w'.heap.size w' w1) => sign_num w1 np _ Ep _ (hnp.below h)
          rcases HC.out with ⟨e1, e2, e3⟩ | ⟨l1, l2, l3, l4, l5⟩
          · have e0 : (z + -fz a).sign = 0 := by rw [← e3, Int.add_right_neg]; rfl
            rw [e0] at hsg
            subst e1
            subst e2
            clear HC e3 e0 hnp hnq hza hzb hzl
            go_wp2_with fail
            refine (hsg _ (Below.refl _ _)).mono ?_
            rintro e w1 ⟨rfl, b1⟩
            go_wp2_with fail
            go_ret
            exact ⟨rfl, hbel9.trans (b1.mono hbel9.size)⟩
          · have hab : (FloatKind.f64.format.order a b == some .eq) = false := by rw [order_eq_iff a b haB hbB hae hbe]; exact decide_eq_false (by omega)
            have hnx := fun w1 => Next_up w1 a haB hae
            rw [l5] at hnx
            have han := and1 a haB
            obtain ⟨hn1, hn2, hn3⟩ := near_three z a b
            have hcm := fun (w1 : World) (h : Below w'.heap.size w' w1) (s : Int) hs => Cmp_sg w1 np nq _ _ Ep Eq _ _ s (hnp.below h) (hnq.below h) (cap4 z (fz a) (fz b) hzl (fz_cap _ hae) (fz_cap _ hbe)) hs
            have HN1 := Lib.hid hn1
            have HN2 := Lib.hid hn2
            have HN3 := Lib.hid hn3
            have L4 := Lib.hid l4
            clear HC hnp hnq hsg hn1 hn2 hn3 l1 l2 l3 l4 l5 hza hzb hzl
            have HP0 := Lib.hid qp
            have HQ0 := Lib.hid qq
            have hl1 : p < w'.heap.size := (Array.getElem?_eq_some_iff.1 HP0.out).1
            have hl2 : q < w'.heap.size := (Array.getElem?_eq_some_iff.1 HQ0.out).1
            clear qp qq p0 p1 p2 q0 q1 q2
            go_wp2_with fail
            refine (hbta _).mono ?_
            rintro e w1 ⟨rfl, rfl⟩
            go_wp2_with fail
            refine (hnx _).mono ?_
            rintro e w1 ⟨rfl, b1⟩
            have hb9 := hbel9.trans (b1.mono hbel9.size)
            clear hnx
            go_wp2_with fail
            refine (hbtb _).mono ?_
            rintro e w2 ⟨rfl, rfl⟩
            obtain ⟨p0, p1, p2⟩ := cells3 ((b1.block p hl1).trans HP0.out)
            obtain ⟨q0, q1, q2⟩ := cells3 ((b1.block q hl2).trans HQ0.out)
            have hcm1 := hcm w2 b1
            clear hcm hl1 hl2 HP0 HQ0
            by_cases hpar : a % 2 = 1
            · rw [hpar] at han
              rcases cases_three z a b with h1 | h1 | h1
              · have hc1 := hcm1 (-1) (HN1.out h1).1
                have hcc : c = a := L4.out.trans (HN1.out h1).2
                subst hcc
                clear hcm1 HN1 HN2 HN3 L4 h1 hpar
                go_wp2_with fail
                refine hc1.mono ?_
                rintro e w3 ⟨rfl, b3⟩
                go_wp2_with fail
                refine (hbta _).mono ?_
                rintro e w4 ⟨rfl, rfl⟩
                go_wp2_with fail
                go_ret
                exact ⟨rfl, hb9.trans (b3.mono hb9.size)⟩
              · have hc1 := hcm1 1 (HN2.out h1).1
                have hcc : c = b := L4.out.trans (HN2.out h1).2
                subst hcc
                clear hcm1 HN1 HN2 HN3 L4 h1 hpar
                go_wp2_with fail
                refine hc1.mono ?_
                rintro e w3 ⟨rfl, b3⟩
                go_wp2_with fail
                refine (hbta _).mono ?_
                rintro e w4 ⟨rfl, rfl⟩
                go_wp2_with fail
                go_ret
                exact ⟨rfl, hb9.trans (b3.mono hb9.size)⟩
              · have hc1 := hcm1 0 (HN3.out h1).1
                have hcc : c = b := (L4.out.trans (HN3.out h1).2).trans (if_pos hpar)
                subst hcc
                clear hcm1 HN1 HN2 HN3 L4 h1 hpar
                go_wp2_with fail
                refine hc1.mono ?_
                rintro e w3 ⟨rfl, b3⟩
                go_wp2_with fail
                refine (hbta _).mono ?_
                rintro e w4 ⟨rfl, rfl⟩
                go_wp2_with fail
                go_ret
                exact ⟨rfl, hb9.trans (b3.mono hb9.size)⟩
            · rw [show a % 2 = 0 by omega] at han
              rcases cases_three z a b with h1 | h1 | h1
              · have hc1 := hcm1 (-1) (HN1.out h1).1
                have hcc : c = a := L4.out.trans (HN1.out h1).2
                subst hcc
                clear hcm1 HN1 HN2 HN3 L4 h1 hpar
                go_wp2_with fail
                refine hc1.mono ?_
                rintro e w3 ⟨rfl, b3⟩
                go_wp2_with fail
                refine (hbta _).mono ?_
                rintro e w4 ⟨rfl, rfl⟩
                go_wp2_with fail
                go_ret
                exact ⟨rfl, hb9.trans (b3.mono hb9.size)⟩
              · have hc1 := hcm1 1 (HN2.out h1).1
                have hcc : c = b := L4.out.trans (HN2.out h1).2
                subst hcc
                clear hcm1 HN1 HN2 HN3 L4 h1 hpar
                go_wp2_with fail
                refine hc1.mono ?_
                rintro e w3 ⟨rfl, b3⟩
                go_wp2_with fail
                refine (hbta _).mono ?_
                rintro e w4 ⟨rfl, rfl⟩
                go_wp2_with fail
                go_ret
                exact ⟨rfl, hb9.trans (b3.mono hb9.size)⟩
              · have hc1 := hcm1 0 (HN3.out h1).1
                have hcc : c = a := (L4.out.trans (HN3.out h1).2).trans (if_neg hpar)
                subst hcc
                clear hcm1 HN1 HN2 HN3 L4 h1 hpar
                go_wp2_with fail
                refine hc1.mono ?_
                rintro e w3 ⟨rfl, b3⟩
                go_wp2_with fail
                refine (hbta _).mono ?_
                rintro e w4 ⟨rfl, rfl⟩
                go_wp2_with fail
                go_ret
                exact ⟨rfl, hb9.trans (b3.mono hb9.size)⟩
end Go.Proofs.YtopilodakphhgaaGreatDoor
