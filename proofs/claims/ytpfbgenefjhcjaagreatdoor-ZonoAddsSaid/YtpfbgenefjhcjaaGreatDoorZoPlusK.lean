/- What Plus tells: bits, and lists that have room. -/
import Derived.Test.YtpfbgenefjhcjaaGreatDoorZoPlusL
namespace Go.Proofs.YtpfbgenefjhcjaaGreatDoor
set_option linter.unusedVariables false
set_option linter.unusedSimpArgs false
open Go Go.RowKit
set_option maxRecDepth 100000
theorem upr_num (z : Int) : Num1 (roundS 1 (some z)).1 := by
 have h0 : Num1 0 := ⟨by decide, by decide, by decide⟩
 have hN : Num1 (MAXB + 9223372036854775808) := ⟨by decide, by decide, by decide⟩
 rcases bet_any z with ⟨_, h, _⟩ | ⟨_, h, _⟩ | ⟨u, _, h, _, _, hn⟩ | ⟨a, b, _, h, _, _, _, _, ha, hb, _⟩
 ·rw [h]; exact h0
 ·rw [h]; exact hN
 ·rw [h]; exact hn
 ·rw [h]; exact hb
theorem addT_nums {a b : List Nat} : ∀ {k : Nat} {l : List Nat}, addT a b k = some l → ∀ u ∈ l, Num1 u := by
 intro k
 induction k with
 | zero => intro l h; cases h; intro u hu; cases hu
 | succ k ih =>
  intro l h
  cases hb : addT a b k with
  | none => rw [addT_none hb _ (Nat.le_succ _)] at h; cases h
  | some l' =>
   cases ho : (nearD (a.getD k 0) (b.getD k 0)).2 with
   | false => rw [addT_over hb ho] at h; cases h
   | true =>
    rw [addT_more hb ho] at h
    cases h
    intro u hu
    rcases List.mem_append.1 hu with hu | hu
    ·exact ih hb u hu
    ·rw [List.mem_singleton.1 hu]
     exact near_num _
theorem rT_nums {f : Nat → Int} : ∀ {k : Nat} {l : List Nat}, rT f k = some l → ∀ u ∈ l, Num1 u := by
 intro k
 induction k with
 | zero => intro l h; cases h; intro u hu; cases hu
 | succ k ih =>
  intro l h
  cases hb : rT f k with
  | none => rw [rT_none hb _ (Nat.le_succ _)] at h; cases h
  | some l' =>
   cases ho : (roundS 1 (some (f k))).2 with
   | false => rw [rT_over hb ho] at h; cases h
   | true =>
    rw [rT_more hb ho] at h
    cases h
    intro u hu
    rcases List.mem_append.1 hu with hu | hu
    ·exact ih hb u hu
    ·rw [List.mem_singleton.1 hu]
     exact upr_num _
/-- The columns of a sum: of n numbers each; its Ids are among the given. -/
theorem gT_nums {a b : ZD} {n : Nat} {U : List Int} : ∀ {j : Nat} {is : List Int} {gs : List (List Nat)}, j ≤ U.length → gT a b n U j = some (is, gs) → (∀ i ∈ is, i ∈ U) ∧ ∀ g ∈ gs, (∀ u ∈ g, Num1 u) ∧ g.length = n := by
 intro j
 induction j with
 | zero => intro is gs _ h; cases h; exact ⟨fun i hi => (by cases hi), fun g hg => (by cases hg)⟩
 | succ j ih =>
  intro is gs hj h
  cases hb : gT a b n U j with
  | none => rw [gT_none hb _ (Nat.le_succ _)] at h; cases h
  | some p =>
   obtain ⟨is', gs'⟩ := p
   obtain ⟨h1, h2⟩ := ih (by omega) hb
   cases ha : addT (colI a n (U.getD j 0)) (colI b n (U.getD j 0)) n with
   | none => rw [gT_over hb ha] at h; cases h
   | some l =>
    cases hs : anyF l with
    | false => rw [gT_skip hb ha hs] at h; cases h; exact ⟨h1, h2⟩
    | true =>
     rw [gT_more hb ha hs] at h
     cases h
     refine ⟨fun i hi => ?_, fun g hg => ?_⟩
     ·rcases List.mem_append.1 hi with hi | hi
      ·exact h1 i hi
      ·rw [List.mem_singleton.1 hi, List.getD_eq_getElem?_getD, List.getElem?_eq_getElem (by omega), Option.getD_some]
       exact List.getElem_mem _
     ·rcases List.mem_append.1 hg with hg | hg
      ·exact h2 g hg
      ·rw [List.mem_singleton.1 hg]
       exact ⟨addT_nums ha, addT_len ha⟩
theorem sameSize_ok {a b : ZD} (ka : ZOk a) : ZOk (lostZ (sameSize a b)) := by
 have key : ∀ m : Int, -9223372036854775808 ≤ m → m ≤ 9223372036854775807 → ZOk (lostZ m) := fun m h1 h2 =>
  ⟨fun u hu => (by simp [lostZ] at hu), fun u hu => (by simp [lostZ] at hu), fun g hg => (by simp [lostZ] at hg), Nat.zero_le _, Nat.zero_le _, Nat.zero_le _, Nat.zero_le _, h1, h2, fun i hi => (by simp [lostZ] at hi)⟩
 unfold sameSize
 split
 ·unfold sizeD
  split
  ·exact key _ ka.n1 ka.n2
  ·exact key _ (by omega) (by omega)
 ·exact key _ (by omega) (by omega)
/-- Either nothing is told, or the three parts are. -/
theorem plusZ_cases (a b : ZD) (n : Nat) (U : List Int) : plusZ a b n U = none ∨ ∃ c is gs r, addT a.c b.c n = some c ∧ gT a b n U U.length = some (is, gs) ∧ rT (offF a b n U U.length) n = some r ∧ plusZ a b n U = some ⟨(n : Int), c, is, gs, r, false⟩ := by
 cases hc : addT a.c b.c n with
 | none => exact Or.inl (plusZ_c hc)
 | some c =>
  cases hg : gT a b n U U.length with
  | none => exact Or.inl (plusZ_g hc hg)
  | some p =>
   obtain ⟨is, gs⟩ := p
   cases hr : rT (offF a b n U U.length) n with
   | none => exact Or.inl (plusZ_r hc hg hr)
   | some r => exact Or.inr ⟨c, is, gs, r, rfl, rfl, rfl, plusZ_yes hc hg hr⟩
theorem plusD_ok {a b : ZD} (ka : ZOk a) : ZOk (plusD a b) := by
 unfold plusD
 split
 ·next h =>
  have hza := (goodD_iff a).1 h.1
  have hzb := (goodD_iff b).1 h.2.1
  obtain ⟨n, hn⟩ : ∃ n : Nat, a.n = (n : Int) := ⟨a.n.toNat, by have := hza.n1; omega⟩
  have hn2 := hza.n2
  rw [hn, Int.toNat_natCast]
  rcases plusZ_cases a b n (unionD a.ids b.ids) with h0 | ⟨c, is, gs, r, h1, h2, h3, h4⟩
  ·rw [h0]
   exact sameSize_ok ka
  ·rw [h4]
   obtain ⟨g1, g2⟩ := gT_nums (Nat.le_refl _) h2
   have hlen := gT_len h2
   have hul := union_len a.ids b.ids
   have e1 := hza.cols
   have e2 := hza.len
   have e3 := hzb.cols
   have e4 := hzb.len
   refine ⟨fun u hu => (addT_nums h1 u hu).2.1, fun u hu => (rT_nums h3 u hu).2.1, fun g hg => ⟨fun u hu => ((g2 g hg).1 u hu).2.1, by rw [(g2 g hg).2]; unfold MAXF; omega⟩, ?_, ?_, ?_, ?_, ?_, ?_, fun i hi => ?_⟩
   ·show c.length ≤ MAXF
    rw [addT_len h1]; unfold MAXF; omega
   ·show r.length ≤ MAXF
    rw [rT_len h3]; unfold MAXF; omega
   ·show is.length ≤ MAXF
    unfold MAXF; omega
   ·show gs.length ≤ MAXG
    unfold MAXG; omega
   ·show (-9223372036854775808 : Int) ≤ (n : Int)
    omega
   ·show (n : Int) ≤ 9223372036854775807
    omega
   ·have := union_wf hza hzb (g1 i hi)
    omega
 ·exact sameSize_ok ka
end Go.Proofs.YtpfbgenefjhcjaaGreatDoor
