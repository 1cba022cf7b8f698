/-
 Numbers of the document as reals, with the range of their powers: sums, products, sizes; rows of them.
 ambitref10.numbers: the values of a list of numbers by their bits; rows of numbers.
 ambitref10.Reals: a zonotope as reals.
-/
import Derived.Test.YtpfbgenefjhcjaaGreatDoorPZoLst
namespace Go.Proofs.YtpfbgenefjhcjaaGreatDoor
set_option linter.unusedVariables false
set_option linter.unusedSimpArgs false
open Go Go.RowKit
set_option maxRecDepth 100000
/-- A number: its sign, its limbs, its power. -/
structure NV where
 neg : Bool
 A : Option Addr
 n : Nat
 cap : Nat
 E : Int
def NV.limbs (x : NV) : Value := .slice x.A x.n x.cap
def NV.cells (x : NV) : List Value := [.bool x.neg, .slice x.A x.n x.cap, .int .i64 x.E]
/-- A number that stands for the real z, its power from lo to hi. -/
structure NumR (lo hi : Int) (w : World) (x : NV) (z : Int) : Prop where
 is : NumIs w x.neg (.slice x.A x.n x.cap) x.E z
 lo : lo ≤ x.E
 hi : x.E ≤ hi
theorem NumR.below {lo hi : Int} {w w1 : World} {x : NV} {z : Int} (h : NumR lo hi w x z) (hb : Below w.heap.size w w1) : NumR lo hi w1 x z := ⟨h.is.below hb, h.lo, h.hi⟩
theorem NumR.wide {lo hi lo' hi' : Int} {w : World} {x : NV} {z : Int} (h : NumR lo hi w x z) (h1 : lo' ≤ lo) (h2 : hi ≤ hi') : NumR lo' hi' w x z := ⟨h.is, Int.le_trans h1 h.lo, Int.le_trans h.hi h2⟩
theorem NumR.far {lo hi : Int} {w w1 : World} {x : NV} {z : Int} {row : Option Nat} {t : TypeId} (h : NumR lo hi w x z) (hg : w.grownBy w1 row) (hr : ∀ g, row = some g → Typed w g t) (hne : t ≠ 136) : NumR lo hi w1 x z := by
 refine ⟨?_, h.lo, h.hi⟩
 obtain ⟨M, hm, h1⟩ := h.is
 refine ⟨M, ?_, h1⟩
 rcases hm with h2 | ⟨g, n, cap, h2, h3, h4, h5, h6⟩
 ·exact Or.inl h2
 ·refine Or.inr ⟨g, n, cap, h2, h3, h4, h5, h6.grown hg fun e => ?_⟩
  obtain ⟨cur, hc, _⟩ := h6
  exact Typed.ne (Typed.of hc) (hr g e.symm) (Ne.symm hne) rfl
def TellsR (lo hi : Int) (w : World) (z : Int) (e : Ending) (w' : World) : Prop := ∃ x : NV, e = .returned (.agg #[.bool x.neg, .slice x.A x.n x.cap, .int .i64 x.E]) ∧ NumR lo hi w' x z ∧ Below w.heap.size w w'
theorem NumIs.cap {w : World} {neg : Bool} {v : Value} {E z : Int} (h : NumIs w neg v E z) : ∃ M : Nat, MagIs w v M ∧ M ≤ z.natAbs ∧ z = sgn neg (M * 2 ^ (E + 2212).toNat) ∧ (M = 0 → E = 0) ∧ M < W32 ^ 400 := by
 obtain ⟨M, h1, h2, h3, h4, h5, h6⟩ := NumIs.def'.1 h
 refine ⟨M, h1, ?_, h6, h2, h5⟩
 rw [h6, sgn_natAbs]
 exact Nat.le_mul_of_pos_right _ (Nat.two_pow_pos _)
theorem plus_r (w : World) (lo hi : Int) (x y : NV) (z1 z2 : Int) (h1 : NumR lo hi w x z1) (h2 : NumR lo hi w y z2) (hlo : -2212 ≤ lo) (hlo0 : lo ≤ 0) (hhi0 : 0 ≤ hi) (hhi : hi ≤ 5000) (hb : (z1 + z2).natAbs < W32 ^ 400) :
  Calls Tryz.prog 58 #[.agg #[.bool x.neg, .slice x.A x.n x.cap, .int .i64 x.E], .agg #[.bool y.neg, .slice y.A y.n y.cap, .int .i64 y.E]] w fun e w' => TellsR lo hi w (z1 + z2) e w' := by
 obtain ⟨M, hm1, hM0, hE1, hE1', hMl, hz1⟩ := NumIs.def'.1 h1.is
 obtain ⟨N, hm2, hN0, hE2, hE2', hNl, hz2⟩ := NumIs.def'.1 h2.is
 have l1 := h1.lo
 have l2 := h2.lo
 have l3 := h1.hi
 have l4 := h2.hi
 refine (plus_level w x.neg y.neg _ _ x.E y.E M N 400 hm1 hm2 (by decide) hMl hNl (by omega) (by omega)).mono ?_
 rintro e w' ⟨ng, v, xE, R, he, hmR, hbel, hcase⟩
 have hform := hmR.form
 obtain ⟨Av, nv, cv, rfl, _, _⟩ := hform
 refine ⟨⟨ng, Av, nv, cv, xE⟩, he, ?_, hbel⟩
 rcases hcase with ⟨hM, rfl, rfl, rfl⟩ | ⟨hM, hN, rfl, rfl, rfl⟩ | ⟨A, B, e0, hM, hN, hL, hR, hfin⟩
 ·refine ⟨NumIs.def'.2 ⟨R, hmR, hN0, hE2, hE2', hNl, ?_⟩, l2, l4⟩
  rw [hz2, hz1, hM, Nat.zero_mul]
  unfold sgn
  split <;> simp
 ·refine ⟨NumIs.def'.2 ⟨R, hmR, hM0, hE1, hE1', hMl, ?_⟩, l1, l3⟩
  rw [hz1, hz2, hN, Nat.zero_mul]
  unfold sgn
  split <;> split <;> simp
 ·obtain ⟨r1, r2, re⟩ := level_real hL hM hN hE1 hE2
  have hp := Nat.two_pow_pos (e0 + 2212).toNat
  have hreal := PlusOf_mul x.neg y.neg A B (2 ^ (e0 + 2212).toNat) hp
  rw [← r1, ← r2, ← hz1, ← hz2, ← hR] at hreal
  rcases hfin with ⟨hR0, rfl, rfl⟩ | ⟨hR0, rfl, rfl⟩
  ·refine ⟨NumIs.def'.2 ⟨R, hmR, fun _ => rfl, by show (-2212 : Int) ≤ 0; omega, by show (0 : Int) ≤ 5000; omega, by rw [hR0]; exact Nat.lt_of_le_of_lt (Nat.zero_le _) hMl, ?_⟩, hlo0, hhi0⟩
   rw [← hreal, hR0, Nat.zero_mul, Nat.zero_mul]
   unfold sgn
   split <;> simp
  ·have e1 : lo ≤ xE ∧ xE ≤ hi := by omega
   refine ⟨NumIs.def'.2 ⟨R, hmR, fun h => absurd h hR0, by show -2212 ≤ xE; omega, by show xE ≤ 5000; omega, ?_, hreal.symm⟩, e1.1, e1.2⟩
   rw [← hreal, sgn_natAbs] at hb
   generalize W32 ^ 400 = T at hb ⊢
   exact Nat.lt_of_le_of_lt (Nat.le_mul_of_pos_right _ hp) hb
theorem W400_pos : 0 < W32 ^ 400 := by
 obtain ⟨b, hb⟩ : ∃ b, b = 400 := ⟨400, rfl⟩
 rw [← hb]
 exact W32_pow b
theorem size_r (w : World) (lo hi : Int) (x : NV) (z : Int) (h : NumR lo hi w x z) : Calls Tryz.prog 51 #[.agg #[.bool x.neg, .slice x.A x.n x.cap, .int .i64 x.E]] w fun e w' => TellsR lo hi w (zabs z) e w' := by
 refine (Size_any w x.neg x.A x.n x.cap x.E).mono fun e w' ⟨h1, h2⟩ => ⟨⟨false, x.A, x.n, x.cap, x.E⟩, h1, ⟨?_, h.lo, h.hi⟩, h2⟩
 obtain ⟨M, g1, g2, g3, g4, g5, g6⟩ := NumIs.def'.1 (h.below h2).is
 refine NumIs.def'.2 ⟨M, g1, g2, g3, g4, g5, ?_⟩
 unfold zabs
 rw [g6, sgn_natAbs]
 rfl
theorem sign_r (w : World) (lo hi : Int) (x : NV) (z : Int) (h : NumR lo hi w x z) : Calls Tryz.prog 40 #[.agg #[.bool x.neg, .slice x.A x.n x.cap, .int .i64 x.E]] w fun e w' => e = .returned (.int .i64 z.sign) ∧ Below w.heap.size w w' := sign_num w _ _ _ z h.is
theorem round_r (w : World) (d lo hi : Int) (x : NV) (z : Int) (h : NumR lo hi w x z) (hd1 : -9223372036854775808 ≤ d) (hd2 : d ≤ 9223372036854775807) :
  Calls Tryz.prog 42 #[.int .i64 d, .agg #[.bool x.neg, .slice x.A x.n x.cap, .int .i64 x.E]] w fun e w' => e = .returned (.tuple #[.int .u64 ((roundS d (some z)).1 : Nat), .bool (roundS d (some z)).2]) ∧ Below w.heap.size w w' := refRound_any w d _ _ _ z h.is hd1 hd2
theorem minus_r (w : World) (lo hi : Int) (x y : NV) (z1 z2 : Int) (h1 : NumR lo hi w x z1) (h2 : NumR lo hi w y z2) (hcap : (z1 + -z2).natAbs < W32 ^ 400) :
  Calls Tryz.prog 52 #[.agg #[.bool x.neg, .slice x.A x.n x.cap, .int .i64 x.E], .agg #[.bool y.neg, .slice y.A y.n y.cap, .int .i64 y.E]] w fun e w' => TellsNum w (z1 + -z2) e w' := Minus_num w _ _ _ _ _ _ z1 z2 h1.is h2.is hcap
theorem cmp_r (w : World) (lo hi lo' hi' : Int) (x y : NV) (z1 z2 : Int) (h1 : NumR lo hi w x z1) (h2 : NumR lo' hi' w y z2) (hcap : (z1 + -z2).natAbs < W32 ^ 400) :
  Calls Tryz.prog 38 #[.agg #[.bool x.neg, .slice x.A x.n x.cap, .int .i64 x.E], .agg #[.bool y.neg, .slice y.A y.n y.cap, .int .i64 y.E]] w fun e w' => e = .returned (.int .i64 (z1 + -z2).sign) ∧ Below w.heap.size w w' := Cmp_num w _ _ _ _ _ _ z1 z2 h1.is h2.is hcap
theorem ofF (u : Nat) (he : fexp u ≠ 2047) (w : World) (hu : u < B64) : Calls Tryz.prog 37 #[.int .u64 (u : Nat)] w fun e w' => ∃ x : NV, e = .returned (.tuple #[.agg #[.bool x.neg, .slice x.A x.n x.cap, .int .i64 x.E], .bool true]) ∧ NumR (-1074) 971 w' x (fz u) ∧ Below w.heap.size w w' := by
 refine (Of_any w u hu).mono ?_
 rintro e w' ⟨neg, v, E, h1, h2, h3, A, n, cap, rfl, hn⟩
 have hb : (fexp u != 2047) = true := by rw [bne_iff_ne]; exact he
 rw [hb] at h1
 have h4 := h2 he
 refine ⟨⟨neg, A, n, cap, E⟩, h1, ⟨h4.num he, ?_, ?_⟩, h3⟩
 ·rcases h4 with ⟨_, _, _, h⟩ | ⟨_, _, h, _⟩
  ·show (-1074 : Int) ≤ E; omega
  ·show (-1074 : Int) ≤ E; have := pwr_ge u; omega
 ·rcases h4 with ⟨_, _, _, h⟩ | ⟨_, _, h, _⟩
  ·show E ≤ (971 : Int); omega
  ·show E ≤ (971 : Int); have := pwr_le u he; omega
end Go.Proofs.YtpfbgenefjhcjaaGreatDoor
namespace Go.Proofs.YtpfbgenefjhcjaaGreatDoor
set_option linter.unusedVariables false
set_option linter.unusedSimpArgs false
open Go Go.RowKit
set_option maxRecDepth 100000
/-- A row of numbers as it lies. -/
def NRow (lo hi : Int) (w : World) (A : Option Addr) (zs : List Int) : Prop :=
 ∀ (j : Nat) (z : Int), zs[j]? = some z → ∃ (b o : Nat) (x : NV), A = some ⟨b, o, none⟩ ∧ b < w.heap.size ∧ w.cell? ⟨b, o + j * 3, none⟩ = some (.bool x.neg) ∧ w.cell? ⟨b, o + j * 3 + 1, none⟩ = some (.slice x.A x.n x.cap) ∧ w.cell? ⟨b, o + j * 3 + 2, none⟩ = some (.int .i64 x.E) ∧ NumR lo hi w x z
theorem NRow.below {lo hi : Int} {w w1 : World} {A : Option Addr} {zs : List Int} (h : NRow lo hi w A zs) (hb : Below w.heap.size w w1) : NRow lo hi w1 A zs := fun j z hz => by
 obtain ⟨b, o, x, e, h1, h2, h3, h4, h5⟩ := h j z hz
 exact ⟨b, o, x, e, Nat.lt_of_lt_of_le h1 hb.size, (hb.cell (p := ⟨b, o + j * 3, none⟩) h1).trans h2, (hb.cell (p := ⟨b, o + j * 3 + 1, none⟩) h1).trans h3, (hb.cell (p := ⟨b, o + j * 3 + 2, none⟩) h1).trans h4, h5.below hb⟩
/-- A list of numbers as a slice holds it. -/
structure NLt (lo hi : Int) (w : World) (A : Option Addr) (cap : Nat) (zs : List Int) : Prop where
 row : NRow lo hi w A zs
 len : zs.length ≤ cap
 most : cap ≤ maxLen
 typed : ∀ a, A = some a → Typed w a.block 70
theorem NLt.below {lo hi : Int} {w w1 : World} {A : Option Addr} {cap : Nat} {zs : List Int} (h : NLt lo hi w A cap zs) (hb : Below w.heap.size w w1) : NLt lo hi w1 A cap zs := ⟨h.row.below hb, h.len, h.most, fun a ha => (h.typed a ha).below hb⟩
theorem NLt.far {lo hi : Int} {w w1 : World} {A : Option Addr} {cap : Nat} {zs : List Int} {row : Option Nat} {t : TypeId} (h : NLt lo hi w A cap zs) (hg : w.grownBy w1 row) (hr : ∀ g, row = some g → Typed w g t) (h1 : t ≠ 136) (h2 : t ≠ 70) : NLt lo hi w1 A cap zs := by
 have hk : ∀ a, A = some a → a.block < w.heap.size ∧ w1.heap[a.block]? = w.heap[a.block]? := fun a ha => ⟨(h.typed a ha).lt, hg.block _ (h.typed a ha).lt fun e => (Typed.ne (h.typed a ha) (hr _ e.symm) (Ne.symm h2)) rfl⟩
 refine ⟨fun j z hz => ?_, h.len, h.most, fun a ha => ?_⟩
 ·obtain ⟨b, o, x, e, g1, g2, g3, g4, g5⟩ := h.row j z hz
  obtain ⟨k1, k2⟩ := hk _ e
  exact ⟨b, o, x, e, Nat.lt_of_lt_of_le k1 hg.size, (World.cell?_of_block (a := ⟨b, o + j * 3, none⟩) k2).trans g2, (World.cell?_of_block (a := ⟨b, o + j * 3 + 1, none⟩) k2).trans g3, (World.cell?_of_block (a := ⟨b, o + j * 3 + 2, none⟩) k2).trans g4, g5.far hg hr h1⟩
 ·obtain ⟨cs, h3⟩ := h.typed a ha
  exact ⟨cs, (hk a ha).2.trans h3⟩
/-- A list of numbers under way. -/
structure NAcc (lo hi : Int) (base : Nat) (wr : World) (v : Value) (ns : List NV) (zs : List Int) : Prop where
 own : OwnG NV.cells 70 3 wr base v ns
 len : ns.length = zs.length
 nums : ∀ (j : Nat) (z : Int), zs[j]? = some z → ∃ x, ns[j]? = some x ∧ NumR lo hi wr x z
section
variable {lo hi : Int} {base : Nat} {wr w2 : World} {v v' : Value} {ns : List NV} {zs : List Int}
theorem NAcc.nil (lo hi : Int) (w : World) (base : Nat) : NAcc lo hi base w (.slice none 0 0) [] [] := ⟨OwnG.nil _ _, rfl, fun j g hg => by simp at hg⟩
theorem NAcc.below (h : NAcc lo hi base wr v ns zs) (hb : Below wr.heap.size wr w2) : NAcc lo hi base w2 v ns zs :=
 ⟨h.own.below hb, h.len, fun j z hz => by obtain ⟨x, h1, h2⟩ := h.nums j z hz; exact ⟨x, h1, h2.below hb⟩⟩
theorem NAcc.add {x : NV} {z : Int} (h : NAcc lo hi base wr v ns zs) (hr : NumR lo hi wr x z) (ho : OwnG NV.cells 70 3 w2 base v' (ns ++ [x])) (hg : wr.grownBy w2 v.ownBlock) :
  NAcc lo hi base w2 v' (ns ++ [x]) (zs ++ [z]) := by
 refine ⟨ho, by simp [h.len], fun j z' hz' => ?_⟩
 by_cases hj : j < zs.length
 ·rw [List.getElem?_append_left hj] at hz'
  obtain ⟨y, h1, h2⟩ := h.nums j z' hz'
  exact ⟨y, by rw [List.getElem?_append_left (by rw [h.len]; exact hj)]; exact h1, h2.far hg h.own.typed (by decide)⟩
 ·have hl := (List.getElem?_eq_some_iff.1 hz').1
  rw [List.length_append, List.length_singleton] at hl
  obtain rfl : j = zs.length := by omega
  rw [List.getElem?_append_right (Nat.le_refl _), Nat.sub_self] at hz'
  cases hz'
  refine ⟨x, ?_, hr.far hg h.own.typed (by decide)⟩
  rw [List.getElem?_append_right (by rw [h.len]; exact Nat.le_refl _), h.len, Nat.sub_self]
  rfl
theorem NAcc.row (h : NAcc lo hi base wr v ns zs) : ∃ A cap, v = .slice A zs.length cap ∧ NLt lo hi wr A cap zs := by
 rcases h.own.row with ⟨rfl, rfl⟩ | ⟨g, cap, rfl, hb, hg, hn, hm, hc⟩
 ·have h0 : zs = [] := List.eq_nil_of_length_eq_zero (by rw [← h.len]; rfl)
  subst h0
  exact ⟨none, 0, rfl, fun j z hz => by simp at hz, Nat.le_refl _, Nat.zero_le _, fun a ha => by cases ha⟩
 ·refine ⟨_, cap, by rw [← h.len], fun j z hz => ?_, by rw [← h.len]; exact hn, hm, fun a ha => by cases ha; exact h.own.typed g rfl⟩
  obtain ⟨x, h1, h2⟩ := h.nums j z hz
  have f := fun i hi => flat_get NV.cells 3 (fun _ => rfl) ns j x h1 i hi
  refine ⟨g, 0, x, rfl, hg, ?_, ?_, ?_, h2⟩
  ·have := hc _ _ (f 0 (by decide)); rw [show 0 + j * 3 = j * 3 + 0 by omega]; exact this
  ·have := hc _ _ (f 1 (by decide)); rw [show 0 + j * 3 + 1 = j * 3 + 1 by omega]; exact this
  ·have := hc _ _ (f 2 (by decide)); rw [show 0 + j * 3 + 2 = j * 3 + 2 by omega]; exact this
end
theorem infoNum : (Tryz.prog.info? 70).map (fun i => (i.zero, i.size, i.bytes)) = some (some (.agg #[.bool false, .slice none 0 0, .int .i64 0]), 3, 40) := by kernel_rfl
def TellsNums (w : World) (us : List Nat) (ok : Bool) (e : Ending) (w' : World) : Prop := (ok = true ∧ ∃ A cap, e = .returned (.tuple #[.slice A us.length cap, .bool true]) ∧ NLt (-1074) 971 w' A cap (us.map fz) ∧ Below w.heap.size w w') ∨ (ok = false ∧ e = .returned (.tuple #[.slice none 0 0, .bool false]) ∧ Below w.heap.size w w')
set_option maxHeartbeats 2000000 in
theorem numbers_any (w : World) (A : Option Addr) (n cap : Nat) (us : List Nat) (N : Int) (h : UR w A us) (hs : Small us) (hl : us.length = n) (hN : N ≤ 1000000) (hm : n ≤ MAXF) :
  Calls Tryz.prog 77 #[.slice A n cap, .int .i64 N] w fun e w' => TellsNums w us (rowD us N) e w' := by
 unfold MAXF at hm
 have HL := Lib.hid hl
 by_cases hNn : (n : Int) = N
 ·subst hNn
  have hn : n ≤ us.length := by omega
  clear hl
  go_enter Tryz.func77, Tryz.ntmps77
  go_wp2_with fail
  go_loopw [6, 7] (fun v i wr => ∃ k : Nat, k ≤ n ∧ i = .int .i64 (k : Nat) ∧ (us.take k).all isNum = true ∧ ∃ ns, NAcc (-1074) 971 w.heap.size wr v ns ((us.take k).map fz) ∧ Below w.heap.size w wr) (fun _ i _ => n - (intOf i).toNat)
  case atStart => exact ⟨0, Nat.zero_le _, rfl, rfl, _, NAcc.nil _ _ _ _, Below.refl _ _⟩
  case round =>
   obtain ⟨k, hk, rfl, hall, ns, hr, hb⟩ := hrel
   have HA := Lib.hid hall
   clear hall
   by_cases hlt : k < n
   ·have hlt' : (k : Int) < (n : Int) := by omega
    obtain ⟨u, hu⟩ := get_some us k (by omega)
    obtain ⟨b, o, rfl, hbb, hc⟩ := h.cell hb k u hu
    have huB := hs.at k u hu
    have hul : (u : Int) ≤ 18446744073709551615 := by unfold B64 at huB; omega
    have HU := Lib.hid hu
    have HV := Lib.hid (take_more us k u hu)
    have hnl : ns.length ≤ k := by rw [hr.len, List.length_map]; exact List.length_take_le _ _
    clear hu
    by_cases he : fexp u = 2047
    ·have hz : rowD us (n : Int) = false := by unfold rowD; rw [all_none isNum us k u HU.out (by unfold isNum; rw [he]; rfl)]; rfl
     have HZ := Lib.hid hz
     have hof := Of_none wr u huB he
     clear hz he huB
     go_wp2_with fail
     refine hof.mono ?_
     rintro e w2 ⟨rfl, hb2⟩
     clear hr
     go_wp2_with fail
     go_ret2
     exact Or.inr ⟨HZ.out, rfl, (hb.trans (hb2.mono hb.size)).alloc (Nat.le_trans hb.size hb2.size) _⟩
    ·have hof := ofF u he wr huB
     have HE := Lib.hid he
     clear he huB
     go_wp2_with fail
     refine hof.mono ?_
     rintro e w2 ⟨x, rfl, hx, hb2⟩
     have hr2 := hr.below hb2
     have hbb2 := hb.trans (hb2.mono hb.size)
     have hsz := hbb2.size
     have hb3 := below_alloc w2 (.cells #[.bool x.neg, .slice x.A x.n x.cap, .int .i64 x.E] 70)
     have hb4 := below_alloc (w2.alloc (.cells #[.bool x.neg, .slice x.A x.n x.cap, .int .i64 x.E] 70)) (.cells #[.bool x.neg, .slice x.A x.n x.cap, .int .i64 x.E] 70)
     have hA4 := (hr2.below hb3).below hb4
     have hx4 := (hx.below hb3).below hb4
     have hnew := heap_alloc_new (w2.alloc (.cells #[.bool x.neg, .slice x.A x.n x.cap, .int .i64 x.E] 70)) (.cells #[.bool x.neg, .slice x.A x.n x.cap, .int .i64 x.E] 70)
     rw [show (w2.alloc (.cells #[.bool x.neg, .slice x.A x.n x.cap, .int .i64 x.E] 70)).heap.size = w2.heap.size + 1 by simp] at hnew
     have hsz4 : w.heap.size ≤ ((w2.alloc (.cells #[.bool x.neg, .slice x.A x.n x.cap, .int .i64 x.E] 70)).alloc (.cells #[.bool x.neg, .slice x.A x.n x.cap, .int .i64 x.E] 70)).heap.size := by simp; omega
     have hbel4 := (hbb2.trans (hb3.mono hsz)).trans (hb4.mono (by simp; omega))
     clear hr hb2 hof hr2 hx hb3 hb4
     go_wp2_with (at_builtin; refine wpList_append_g NV.cells 3 40 (.agg #[.bool false, .slice none 0 0, .int .i64 0]) 58 70 Tryz.underlying58 infoNum rfl (by decide) (fun _ => rfl) rfl (.tmp 29) (.tmp 31) rfl w.heap.size _ ns [x] rfl hA4.own ⟨w2.heap.size + 1, 0, none⟩ 1 1 rfl rfl (World.news_of_block hnew) (by unfold maxLen; omega) (by omega) hsz4 (fun y hy u hu => by simp at hy; subst hy; simp [NV.cells] at hu; rcases hu with rfl | rfl | rfl <;> rfl) ?_; intro v5 w5 ho5 hg5 _; have hA5 := hA4.add hx4 ho5 hg5; have hbel5 := hbel4.trans (below_ownG hA4.own hg5 hsz4); clear ho5 hg5 hA4 hx4 hnew hbel4 hbb2)
     rw [show (us.take k).map fz ++ [fz u] = (us.take (k + 1)).map fz by rw [HV.out, List.map_append]; rfl] at hA5
     go_roundw
     case rel => exact ⟨k + 1, by omega, by go_num, all_take _ _ _ _ HU.out HA.out (by unfold isNum; rw [bne_iff_ne]; exact HE.out), _, hA5, hbel5⟩
     case measure => simp [intOf]; omega
   ·obtain rfl : k = n := by omega
    have hlt' : decide ((k : Int) < (k : Nat)) = false := by simp
    have hall2 : us.all isNum = true := by
     have h1 := HA.out
     rw [List.take_of_length_le (by have := HL.out; omega)] at h1
     exact h1
    have hz : rowD us (k : Int) = true := by unfold rowD; rw [hall2, HL.out]; simp
    have HZ := Lib.hid hz
    rw [List.take_of_length_le (by have := HL.out; omega)] at hr
    obtain ⟨A', cap', hv, hR⟩ := hr.row
    subst hv
    have HR := Lib.hid hR
    clear hz hall2 hR hr
    rw [List.length_map] at *
    go_wp2_with fail
    go_ret2
    exact Or.inl ⟨HZ.out, _, _, by simp, HR.out, hb⟩
 ·have hd : ((n : Int) == N) = false := by rw [beq_eq_false_iff_ne]; exact hNn
  have hz : rowD us N = false := by unfold rowD; rw [hl, hd]; simp
  have HZ := Lib.hid hz
  clear hz hl
  go_enter Tryz.func77, Tryz.ntmps77
  go_wp2_with fail
  go_ret2
  exact Or.inr ⟨HZ.out, rfl, Below.refl _ _⟩
theorem numbers_yes (w : World) (A : Option Addr) (n cap : Nat) (us : List Nat) (N : Int) (h : UR w A us) (hs : Small us) (hl : us.length = n) (hN : N ≤ 1000000) (hm : n ≤ MAXF) (hr : rowD us N = true) :
  Calls Tryz.prog 77 #[.slice A n cap, .int .i64 N] w fun e w' => ∃ A' cap', e = .returned (.tuple #[.slice A' us.length cap', .bool true]) ∧ NLt (-1074) 971 w' A' cap' (us.map fz) ∧ Below w.heap.size w w' := by
 refine (numbers_any w A n cap us N h hs hl hN hm).mono fun e w' ht => ?_
 rcases ht with ⟨_, A', cap', h1, h2, h3⟩ | ⟨h1, _⟩
 ·exact ⟨A', cap', h1, h2, h3⟩
 ·rw [hr] at h1; cases h1
theorem numbers_no (w : World) (A : Option Addr) (n cap : Nat) (us : List Nat) (N : Int) (h : UR w A us) (hs : Small us) (hl : us.length = n) (hN : N ≤ 1000000) (hm : n ≤ MAXF) (hr : rowD us N = false) :
  Calls Tryz.prog 77 #[.slice A n cap, .int .i64 N] w fun e w' => e = .returned (.tuple #[.slice none 0 0, .bool false]) ∧ Below w.heap.size w w' := by
 refine (numbers_any w A n cap us N h hs hl hN hm).mono fun e w' ht => ?_
 rcases ht with ⟨h1, _⟩ | ⟨_, h1, h2⟩
 ·rw [hr] at h1; cases h1
 ·exact ⟨h1, h2⟩
end Go.Proofs.YtpfbgenefjhcjaaGreatDoor
namespace Go.Proofs.YtpfbgenefjhcjaaGreatDoor
set_option linter.unusedVariables false
set_option linter.unusedSimpArgs false
open Go Go.RowKit
set_option maxRecDepth 100000
/-- Lists of numbers in a list. -/
def NGR (lo hi : Int) (w : World) (A : Option Addr) (zss : List (List Int)) : Prop :=
 ∀ (k : Nat) (zs : List Int), zss[k]? = some zs → ∃ b o : Nat, A = some ⟨b, o, none⟩ ∧ b < w.heap.size ∧ ∃ (B : Option Addr) (cap : Nat), w.cell? ⟨b, o + k, none⟩ = some (.slice B zs.length cap) ∧ NLt lo hi w B cap zs
theorem NGR.below {lo hi : Int} {w w1 : World} {A : Option Addr} {zss : List (List Int)} (h : NGR lo hi w A zss) (hb : Below w.heap.size w w1) : NGR lo hi w1 A zss := fun k zs hz => by
 obtain ⟨b, o, e, h1, B, cap, h2, h3⟩ := h k zs hz
 exact ⟨b, o, e, Nat.lt_of_lt_of_le h1 hb.size, B, cap, (hb.cell (p := ⟨b, o + k, none⟩) h1).trans h2, h3.below hb⟩
structure NGAcc (lo hi : Int) (base : Nat) (wr : World) (v : Value) (vals : List Value) (zss : List (List Int)) : Prop where
 own : OwnG (fun x => [cV x]) 58 1 wr base v vals
 len : vals.length = zss.length
 rows : ∀ (j : Nat) (zs : List Int), zss[j]? = some zs → ∃ A cap, vals[j]? = some (.slice A zs.length cap) ∧ NLt lo hi wr A cap zs
section
variable {lo hi : Int} {base : Nat} {wr w2 : World} {v v' : Value} {vals : List Value} {zss : List (List Int)}
theorem NGAcc.nil (lo hi : Int) (w : World) (base : Nat) : NGAcc lo hi base w (.slice none 0 0) [] [] := ⟨OwnG.nil _ _, rfl, fun j g hg => by simp at hg⟩
theorem NGAcc.below (h : NGAcc lo hi base wr v vals zss) (hb : Below wr.heap.size wr w2) : NGAcc lo hi base w2 v vals zss :=
 ⟨h.own.below hb, h.len, fun j z hz => by obtain ⟨A, cap, h1, h2⟩ := h.rows j z hz; exact ⟨A, cap, h1, h2.below hb⟩⟩
theorem NGAcc.far {g0 : Nat} {t0 : TypeId} (h : NGAcc lo hi base wr v vals zss) (hg : wr.grownBy w2 (some g0)) (hz : Typed wr g0 t0) (h1 : t0 ≠ 136) (h2 : t0 ≠ 70) (h3 : 58 ≠ t0) : NGAcc lo hi base w2 v vals zss := by
 refine ⟨h.own.kept hg ?_, h.len, fun j g hg' => ?_⟩
 ·cases hv : v.ownBlock with
  | none => exact Or.inl rfl
  | some k => exact Or.inr fun e => by injection e with e; exact Typed.ne (h.own.typed k hv) hz h3 e
 ·obtain ⟨A, cap, h4, h5⟩ := h.rows j g hg'
  exact ⟨A, cap, h4, h5.far hg (fun k hk => by cases hk; exact hz) h1 h2⟩
theorem NGAcc.add {A : Option Addr} {cap : Nat} {zs : List Int} (h : NGAcc lo hi base wr v vals zss) (hr : NLt lo hi wr A cap zs) (ho : OwnG (fun x => [cV x]) 58 1 w2 base v' (vals ++ [.slice A zs.length cap])) (hg : wr.grownBy w2 v.ownBlock) :
  NGAcc lo hi base w2 v' (vals ++ [.slice A zs.length cap]) (zss ++ [zs]) := by
 refine ⟨ho, by simp [h.len], fun j g' hg' => ?_⟩
 by_cases hj : j < zss.length
 ·rw [List.getElem?_append_left hj] at hg'
  obtain ⟨A', cap', h1, h2⟩ := h.rows j g' hg'
  exact ⟨A', cap', by rw [List.getElem?_append_left (by rw [h.len]; exact hj)]; exact h1, h2.far hg h.own.typed (by decide) (by decide)⟩
 ·have hl := (List.getElem?_eq_some_iff.1 hg').1
  rw [List.length_append, List.length_singleton] at hl
  obtain rfl : j = zss.length := by omega
  rw [List.getElem?_append_right (Nat.le_refl _), Nat.sub_self] at hg'
  cases hg'
  refine ⟨A, cap, ?_, hr.far hg h.own.typed (by decide) (by decide)⟩
  rw [List.getElem?_append_right (by rw [h.len]; exact Nat.le_refl _), h.len, Nat.sub_self]
  rfl
theorem NGAcc.farR {t0 : TypeId} {row : Option Nat} (h : NGAcc lo hi base wr v vals zss) (hg : wr.grownBy w2 row) (hr : ∀ g, row = some g → Typed wr g t0) (h1 : t0 ≠ 136) (h2 : t0 ≠ 70) (h3 : 58 ≠ t0) : NGAcc lo hi base w2 v vals zss :=
 ⟨h.own.farR hg hr h3, h.len, fun j g hg' => by obtain ⟨A, cap, h4, h5⟩ := h.rows j g hg'; exact ⟨A, cap, h4, h5.far hg hr h1 h2⟩⟩
theorem NGAcc.row (h : NGAcc lo hi base wr v vals zss) : ∃ A cap, v = .slice A zss.length cap ∧ NGR lo hi wr A zss := by
 obtain ⟨A, cap, h1, h2⟩ := h.own.lat
 refine ⟨A, cap, by rw [← h.len]; exact h1, fun k g hg => ?_⟩
 obtain ⟨B, cp, h3, h4⟩ := h.rows k g hg
 obtain ⟨b, o, e, hb, hc⟩ := h2.row k _ h3
 exact ⟨b, o, e, hb, B, cp, hc, h4⟩
end
theorem infoLN : (Tryz.prog.info? 58).map (fun i => (i.zero, i.size, i.bytes)) = some (some (.slice none 0 0), 1, 24) := by kernel_rfl
/-- A zonotope as reals, as a value. -/
structure RealC (w : World) (z : ZD) (A B C D : Option Addr) (kA kB kC kD : Nat) : Prop where
 c : NLt (-1074) 971 w A kA (z.c.map fz)
 ids : LAt cI w B kB z.ids
 g : NGR (-1074) 971 w C (z.g.map fun g => g.map fz)
 r : NLt (-1074) 971 w D kD (z.r.map fz)
theorem RealC.below {w w1 : World} {z : ZD} {A B C D : Option Addr} {kA kB kC kD : Nat} (h : RealC w z A B C D kA kB kC kD) (hb : Below w.heap.size w w1) : RealC w1 z A B C D kA kB kC kD := ⟨h.c.below hb, h.ids.below hb, h.g.below hb, h.r.below hb⟩
def rval (z : ZD) (A B C D : Option Addr) (kA kB kC kD : Nat) : Value := .agg #[.int .i64 z.n, .slice A z.c.length kA, .slice B z.ids.length kB, .slice C z.g.length kC, .slice D z.r.length kD]
def RealIs (w : World) (v : Value) (z : ZD) : Prop := ∃ A B C D kA kB kC kD, v = rval z A B C D kA kB kC kD ∧ RealC w z A B C D kA kB kC kD
theorem RealIs.below {w w1 : World} {v : Value} {z : ZD} (h : RealIs w v z) (hb : Below w.heap.size w w1) : RealIs w1 v z := by
 obtain ⟨A, B, C, D, kA, kB, kC, kD, h1, h2⟩ := h
 exact ⟨A, B, C, D, kA, kB, kC, kD, h1, h2.below hb⟩
def noReal : Value := .agg #[.int .i64 0, .slice none 0 0, .slice none 0 0, .slice none 0 0, .slice none 0 0]
def TellsReal (w : World) (z : ZD) (e : Ending) (w' : World) : Prop := (goodD z = true ∧ ∃ v', e = .returned (.tuple #[v', .bool true]) ∧ RealIs w' v' z ∧ Below w.heap.size w w') ∨ (goodD z = false ∧ e = .returned (.tuple #[noReal, .bool false]) ∧ Below w.heap.size w w')
theorem cells5 {w : World} {g : Nat} {t : TypeId} {b0 b1 b2 b3 b4 : Value} (h : w.heap[g]? = some (.cells #[b0, b1, b2, b3, b4] t (0, 0))) :
  w.cell? ⟨g, 0, none⟩ = some b0 ∧ w.cell? ⟨g, 1, none⟩ = some b1 ∧ w.cell? ⟨g, 2, none⟩ = some b2 ∧ w.cell? ⟨g, 3, none⟩ = some b3 ∧ w.cell? ⟨g, 4, none⟩ = some b4 := by
 refine ⟨?_, ?_, ?_, ?_, ?_⟩ <;> (rw [cell_of_row _ _ _ _ _ _ h]; rfl)
set_option maxHeartbeats 2000000 in
theorem Reals_head (w : World) (A B C D : Option Addr) (kA kB kC kD : Nat) (z : ZD) (hh : z.bad = true ∨ z.n < 1 ∨ 256 < z.n ∨ z.ids.length ≠ z.g.length) :
  Calls Tryz.prog 33 #[zval z A B C D kA kB kC kD] w fun e w' => e = .returned (.tuple #[noReal, .bool false]) ∧ Below w.heap.size w w' := by
 obtain ⟨n, c, ids, g, r, bad⟩ := z
 replace hh : bad = true ∨ n < 1 ∨ 256 < n ∨ ids.length ≠ g.length := hh
 unfold noReal
 show Calls Tryz.prog 33 #[.agg #[.int .i64 n, .slice A c.length kA, .slice B ids.length kB, .slice C g.length kC, .slice D r.length kD, .bool bad]] w _
 cases bad with
 | true =>
  clear hh
  go_enter Tryz.func33, Tryz.ntmps33
  go_wp2_with fail
  refine bodyPost_ret (v := .tuple #[.agg #[.int .i64 0, .slice none 0 0, .slice none 0 0, .slice none 0 0, .slice none 0 0], .bool false]) (by simp [results, Tryz.results33, go_sem]) rfl ⟨rfl, (below_alloc w _).trans ((below_alloc _ _).mono (by simp))⟩
 | false =>
  by_cases n1 : n < 1
  ·clear hh
   go_enter Tryz.func33, Tryz.ntmps33
   go_wp2_with fail
   refine bodyPost_ret (v := .tuple #[.agg #[.int .i64 0, .slice none 0 0, .slice none 0 0, .slice none 0 0, .slice none 0 0], .bool false]) (by simp [results, Tryz.results33, go_sem]) rfl ⟨rfl, (below_alloc w _).trans ((below_alloc _ _).mono (by simp))⟩
  ·have n1' : decide (n < 1) = false := by simp; omega
   by_cases n2 : 256 < n
   ·clear hh
    go_enter Tryz.func33, Tryz.ntmps33
    go_wp2_with fail
    refine bodyPost_ret (v := .tuple #[.agg #[.int .i64 0, .slice none 0 0, .slice none 0 0, .slice none 0 0, .slice none 0 0], .bool false]) (by simp [results, Tryz.results33, go_sem]) rfl ⟨rfl, (below_alloc w _).trans ((below_alloc _ _).mono (by simp))⟩
   ·have n2' : decide (256 < n) = false := by simp; omega
    have e3 : ids.length ≠ g.length := by rcases hh with h | h | h | h; cases h; omega; omega; exact h
    have e3' : ((ids.length : Int) == (g.length : Int)) = false := by rw [beq_eq_false_iff_ne] at *; omega
    clear hh e3 n1 n2
    go_enter Tryz.func33, Tryz.ntmps33
    go_wp2_with fail
    refine bodyPost_ret (v := .tuple #[.agg #[.int .i64 0, .slice none 0 0, .slice none 0 0, .slice none 0 0, .slice none 0 0], .bool false]) (by simp [results, Tryz.results33, go_sem]) rfl ⟨rfl, (below_alloc w _).trans ((below_alloc _ _).mono (by simp))⟩
end Go.Proofs.YtpfbgenefjhcjaaGreatDoor
