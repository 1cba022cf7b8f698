/- ambitlaw3.AccSums: true. -/
import Derived.Test.YtopilodakphhgaaGreatDoorSumsLow
namespace Go.Proofs.YtopilodakphhgaaGreatDoor
set_option linter.unusedVariables false
set_option linter.unusedSimpArgs false
open Go Go.RowKit
set_option maxRecDepth 100000
theorem dot_both (d : Int) (A B A' B' : Option Addr) (ca cb ca' cb' n m : Nat) (us vs : List Nat) (hu : us.length = n) (hv : vs.length = m) (hl : n ≤ 2000) (hd1 : -9223372036854775808 ≤ d) (hd2 : d ≤ 9223372036854775807) :
    ∃ r : Nat × Bool, (∀ w, FRow w A us → FRow w B vs → Calls Tryz.prog 24 #[.int .i64 d, .slice A n ca, .slice B m cb] w fun e w' => e = .returned (.tuple #[.float .f64 r.1, .bool r.2]) ∧ Below w.heap.size w w') ∧
      (∀ w, LRow w A' us → LRow w B' vs → Calls Tryz.prog 25 #[.int .i64 d, .slice A' n ca', .slice B' m cb'] w fun e w' => e = .returned (.tuple #[.int .u64 (r.1 : Nat), .bool r.2]) ∧ Below w.heap.size w w') := by
  by_cases e : n = m
  · subst e
    exact ⟨_, fun w h1 h2 => dot_any w d A B ca cb n us vs h1 h2 hu hv (by omega) hd1 hd2, fun w h1 h2 => ref3Dot_any w d A' B' ca' cb' n us vs h1 h2 hu hv (by omega) hd1 hd2⟩
  · exact ⟨(0, false), fun w _ _ => dot_apart w d A B ca cb n m e, fun w _ _ => ref3Dot_apart w d A' B' ca' cb' n m e⟩
theorem LRow.below {w wr : World} {A : Option Addr} {ls : List Nat} (h : LRow w A ls) (hb : Below w.heap.size w wr) : LRow wr A ls := fun j v hj => by
  obtain ⟨x, h1, h2, h3, h4⟩ := h j v hj
  exact ⟨x, h1, Nat.lt_of_lt_of_le h2 hb.size, by rw [hb.cell (by rw [add_block]; exact h2)]; exact h3, h4⟩
theorem LRow.take {w : World} {A : Option Addr} {ls : List Nat} (h : LRow w A ls) (n : Nat) : LRow w A (ls.take n) := fun j v hj => by
  by_cases hn : j < n
  · rw [List.getElem?_take_of_lt hn] at hj
    exact h j v hj
  · rw [List.getElem?_eq_none (by rw [List.length_take]; omega)] at hj
    cases hj
theorem LRow.all {w : World} {A : Option Addr} {ls : List Nat} (h : LRow w A ls) : ∀ u ∈ ls, u < B64 := fun u hu => by
  obtain ⟨j, hj⟩ := List.mem_iff_getElem?.1 hu
  obtain ⟨_, _, _, _, h⟩ := h j u hj
  exact h
set_option maxHeartbeats 4000000 in
theorem sums_ss (w : World) (d : Int) (A B : Option Addr) (n m ca cb : Nat) (la lb : List Nat) (hA : LRow w A la) (hB : LRow w B lb) (hla : la.length = n) (hlb : lb.length = m) (hd1 : -9223372036854775808 ≤ d) (hd2 : d ≤ 9223372036854775807) (hca : n ≤ ca) (hcb : m ≤ cb) (hn : n ≤ 2000) (hm : m ≤ 2000) :
    Calls Tryz.prog 4 #[.int .i64 d, .slice A n ca, .slice B m cb] w fun e w' => e = .returned (.bool true) ∧ Below w.heap.size w w' := by
  have htn : decide ((2000 : Int) < (n : Int)) = false := by simp; omega
  have htm : decide ((2000 : Int) < (m : Int)) = false := by simp; omega
  have HA := Lib.hid hA
  have HB := Lib.hid hB
  have hba := hA.all
  have hbb := hB.all
  have HLA := Lib.hid hla
  have HLB := Lib.hid hlb
  have HBA := Lib.hid hba
  have HBB := Lib.hid hbb
  have HN : Hid (n ≤ 2000) := Lib.hid hn
  have HM : Hid (m ≤ 2000) := Lib.hid hm
  have HSU := Lib.hid (fun w1 (h : Below w.heap.size w w1) => ref3Sum_any w1 d A ca la (hA.below h) (by have := HLA.out; have := HN.out; omega) hd1 hd2)
  clear hba hbb hA hB hla hlb  
  go_enter Tryz.func4, Tryz.ntmps4
  go_wp2_with fail
  refine (begun_any w).mono ?_
  rintro e w1 ⟨rfl, hb1⟩
  go_wp2_with fail
  refine (floats_any w1 A n ca la (HA.out.below hb1) HLA.out HN.out).mono ?_
  rintro e w2 ⟨g, cf, rfl, hf2, b2⟩
  have hb2 := hb1.trans (b2.mono hb1.size)
  clear hb1 b2
  go_wp2_with fail
  refine (floats_any w2 B m cb lb (HB.out.below hb2) HLB.out HM.out).mono ?_
  rintro e w3 ⟨g', cf', rfl, hg3, b3⟩
  have hf3 := hf2.below b3
  have hb3 := hb2.trans (b3.mono hb2.size)
  clear hb2 b3 hf2
  have hsum := sum_any w3 d (some ⟨g, 0, none⟩) cf la (hf3.row HBA.out) (by have := HLA.out; have := HN.out; omega) hd1 hd2
  rw [HLA.out] at hsum
  have hru := HSU.out
  rw [HLA.out] at hru
  clear HSU
  revert hsum hru
  generalize roundS d (sumS la) = R
  intro hsum hru
  obtain ⟨rd, hdot, hrd⟩ := dot_both d (some ⟨g, 0, none⟩) (some ⟨g', 0, none⟩) A B cf cf' ca cb n m la lb HLA.out HLB.out HN.out hd1 hd2
  go_wp2_with fail
  refine hsum.mono ?_
  rintro e w4 ⟨rfl, b4⟩
  have hf4 := hf3.below b4
  have hg4 := hg3.below b4
  have hb4 := hb3.trans (b4.mono hb3.size)
  clear hf3 hg3 hb3 b4 hsum
  have hru4 := hru w4 hb4
  clear hru
  go_wp2_with fail
  refine hru4.mono ?_
  rintro e w5 ⟨rfl, b5⟩
  have hf5 := hf4.below b5
  have hg5 := hg4.below b5
  have hb5 := hb4.trans (b5.mono hb4.size)
  clear hf4 hg4 hb4 b5 hru4
  have hdt := hdot w5 (hf5.row HBA.out) (hg5.row HBB.out)
  clear hdot
  go_wp2_with fail
  refine hdt.mono ?_
  rintro e w6 ⟨rfl, b6⟩
  have hf6 := hf5.below b6
  have hg6 := hg5.below b6
  have hb6 := hb5.trans (b6.mono hb5.size)
  clear hf5 hg5 hb5 b6 hdt
  have hdt := hrd w6 (HA.out.below hb6) (HB.out.below hb6)
  clear hrd
  go_wp2_with fail
  refine hdt.mono ?_
  rintro e w7 ⟨rfl, b7⟩
  have hf7 := hf6.below b7
  have hg7 := hg6.below b7
  have hb7 := hb6.trans (b7.mono hb6.size)
  clear hf6 hg6 hb6 b7 hdt
  have hs1 := same_any w7 R.1 R.1 R.2 rfl
  have hs2 := same_any w7 rd.1 rd.1 rd.2 rfl
  have ht1 := stand_any w7 g cf A n ca la (HA.out.below hb7) hf7 HLA.out HN.out
  have ht2 := fun w8 (h : Below w.heap.size w w8) h2 => stand_any w8 g' cf' B m cb lb (HB.out.below h) h2 HLB.out HM.out
  clear HA HB HBA HBB HLA HLB HN HM hf7
  generalize R.1 = R1 at *
  generalize R.2 = R2 at *
  generalize rd.1 = D1 at *
  generalize rd.2 = D2 at *
  go_wp2_with fail
  refine hs1.mono ?_
  rintro e w8 ⟨rfl, rfl⟩
  clear hs1
  go_wp2_with fail
  refine hs2.mono ?_
  rintro e w9 ⟨rfl, rfl⟩
  clear hs2
  go_wp2_with fail
  refine ht1.mono ?_
  rintro e w10 ⟨rfl, b10⟩
  have hg10 := hg7.below b10
  have hb10 := hb7.trans (b10.mono hb7.size)
  clear ht1 hg7 hb7 b10
  have ht3 := ht2 w10 hb10 hg10
  clear ht2
  go_wp2_with fail
  refine ht3.mono ?_
  rintro e w11 ⟨rfl, b11⟩
  have hb11 := hb10.trans (b11.mono hb10.size)
  clear ht3 hg10 hb10 b11
  go_wp2_with fail
  go_ret
  exact ⟨rfl, hb11⟩
set_option maxHeartbeats 4000000 in
theorem sums_sb (w : World) (d : Int) (A B : Option Addr) (n m ca cb : Nat) (la lb : List Nat) (hA : LRow w A la) (hB : LRow w B lb) (hla : la.length = n) (hlb : lb.length = m) (hd1 : -9223372036854775808 ≤ d) (hd2 : d ≤ 9223372036854775807) (hca : n ≤ ca) (hcb : m ≤ cb) (hn : n ≤ 2000) (hm : 2000 < m) :
    Calls Tryz.prog 4 #[.int .i64 d, .slice A n ca, .slice B m cb] w fun e w' => e = .returned (.bool true) ∧ Below w.heap.size w w' := by
  have htn : decide ((2000 : Int) < (n : Int)) = false := by simp; omega
  have htm : (2000 : Int) < (m : Int) := by omega
  have hsm : (2000 : Int) ≤ (cb : Int) := by omega
  have hllb' : (lb.take 2000).length = 2000 := by rw [List.length_take]; omega
  have hB' := hB.take 2000
  have HA := Lib.hid hA
  have HB := Lib.hid hB'
  have hba := hA.all
  have hbb := hB'.all
  have HLA := Lib.hid hla
  have HLB := Lib.hid hllb'
  have HBA := Lib.hid hba
  have HBB := Lib.hid hbb
  have HN : Hid (n ≤ 2000) := Lib.hid hn
  have HM : Hid (2000 ≤ 2000) := Lib.hid (Nat.le_refl _)
  have HSU := Lib.hid (fun w1 (h : Below w.heap.size w w1) => ref3Sum_any w1 d A ca la (hA.below h) (by have := HLA.out; have := HN.out; omega) hd1 hd2)
  clear hba hbb hA hB hla hlb  hB' hllb'
  go_enter Tryz.func4, Tryz.ntmps4
  go_wp2_with fail
  refine (begun_any w).mono ?_
  rintro e w1 ⟨rfl, hb1⟩
  go_wp2_with fail
  refine (floats_any w1 A n ca la (HA.out.below hb1) HLA.out HN.out).mono ?_
  rintro e w2 ⟨g, cf, rfl, hf2, b2⟩
  have hb2 := hb1.trans (b2.mono hb1.size)
  clear hb1 b2
  go_wp2_with fail
  refine (floats_any w2 B 2000 cb (lb.take 2000) (HB.out.below hb2) HLB.out HM.out).mono ?_
  rintro e w3 ⟨g', cf', rfl, hg3, b3⟩
  have hf3 := hf2.below b3
  have hb3 := hb2.trans (b3.mono hb2.size)
  clear hb2 b3 hf2
  have hsum := sum_any w3 d (some ⟨g, 0, none⟩) cf la (hf3.row HBA.out) (by have := HLA.out; have := HN.out; omega) hd1 hd2
  rw [HLA.out] at hsum
  have hru := HSU.out
  rw [HLA.out] at hru
  clear HSU
  revert hsum hru
  generalize roundS d (sumS la) = R
  intro hsum hru
  obtain ⟨rd, hdot, hrd⟩ := dot_both d (some ⟨g, 0, none⟩) (some ⟨g', 0, none⟩) A B cf cf' ca cb n 2000 la (lb.take 2000) HLA.out HLB.out HN.out hd1 hd2
  go_wp2_with fail
  refine hsum.mono ?_
  rintro e w4 ⟨rfl, b4⟩
  have hf4 := hf3.below b4
  have hg4 := hg3.below b4
  have hb4 := hb3.trans (b4.mono hb3.size)
  clear hf3 hg3 hb3 b4 hsum
  have hru4 := hru w4 hb4
  clear hru
  go_wp2_with fail
  refine hru4.mono ?_
  rintro e w5 ⟨rfl, b5⟩
  have hf5 := hf4.below b5
  have hg5 := hg4.below b5
  have hb5 := hb4.trans (b5.mono hb4.size)
  clear hf4 hg4 hb4 b5 hru4
  have hdt := hdot w5 (hf5.row HBA.out) (hg5.row HBB.out)
  clear hdot
  go_wp2_with fail
  refine hdt.mono ?_
  rintro e w6 ⟨rfl, b6⟩
  have hf6 := hf5.below b6
  have hg6 := hg5.below b6
  have hb6 := hb5.trans (b6.mono hb5.size)
  clear hf5 hg5 hb5 b6 hdt
  have hdt := hrd w6 (HA.out.below hb6) (HB.out.below hb6)
  clear hrd
  go_wp2_with fail
  refine hdt.mono ?_
  rintro e w7 ⟨rfl, b7⟩
  have hf7 := hf6.below b7
  have hg7 := hg6.below b7
  have hb7 := hb6.trans (b7.mono hb6.size)
  clear hf6 hg6 hb6 b7 hdt
  have hs1 := same_any w7 R.1 R.1 R.2 rfl
  have hs2 := same_any w7 rd.1 rd.1 rd.2 rfl
  have ht1 := stand_any w7 g cf A n ca la (HA.out.below hb7) hf7 HLA.out HN.out
  have ht2 := fun w8 (h : Below w.heap.size w w8) h2 => stand_any w8 g' cf' B 2000 cb (lb.take 2000) (HB.out.below h) h2 HLB.out HM.out
  clear HA HB HBA HBB HLA HLB HN HM hf7
  generalize R.1 = R1 at *
  generalize R.2 = R2 at *
  generalize rd.1 = D1 at *
  generalize rd.2 = D2 at *
  go_wp2_with fail
  refine hs1.mono ?_
  rintro e w8 ⟨rfl, rfl⟩
  clear hs1
  go_wp2_with fail
  refine hs2.mono ?_
  rintro e w9 ⟨rfl, rfl⟩
  clear hs2
  go_wp2_with fail
  refine ht1.mono ?_
  rintro e w10 ⟨rfl, b10⟩
  have hg10 := hg7.below b10
  have hb10 := hb7.trans (b10.mono hb7.size)
  clear ht1 hg7 hb7 b10
  have ht3 := ht2 w10 hb10 hg10
  clear ht2
  go_wp2_with fail
  refine ht3.mono ?_
  rintro e w11 ⟨rfl, b11⟩
  have hb11 := hb10.trans (b11.mono hb10.size)
  clear ht3 hg10 hb10 b11
  go_wp2_with fail
  go_ret
  exact ⟨rfl, hb11⟩
set_option maxHeartbeats 4000000 in
theorem sums_bs (w : World) (d : Int) (A B : Option Addr) (n m ca cb : Nat) (la lb : List Nat) (hA : LRow w A la) (hB : LRow w B lb) (hla : la.length = n) (hlb : lb.length = m) (hd1 : -9223372036854775808 ≤ d) (hd2 : d ≤ 9223372036854775807) (hca : n ≤ ca) (hcb : m ≤ cb) (hn : 2000 < n) (hm : m ≤ 2000) :
    Calls Tryz.prog 4 #[.int .i64 d, .slice A n ca, .slice B m cb] w fun e w' => e = .returned (.bool true) ∧ Below w.heap.size w w' := by
  have htn : (2000 : Int) < (n : Int) := by omega
  have hsn : (2000 : Int) ≤ (ca : Int) := by omega
  have hlla' : (la.take 2000).length = 2000 := by rw [List.length_take]; omega
  have hA' := hA.take 2000
  have htm : decide ((2000 : Int) < (m : Int)) = false := by simp; omega
  have HA := Lib.hid hA'
  have HB := Lib.hid hB
  have hba := hA'.all
  have hbb := hB.all
  have HLA := Lib.hid hlla'
  have HLB := Lib.hid hlb
  have HBA := Lib.hid hba
  have HBB := Lib.hid hbb
  have HN : Hid (2000 ≤ 2000) := Lib.hid (Nat.le_refl _)
  have HM : Hid (m ≤ 2000) := Lib.hid hm
  have HSU := Lib.hid (fun w1 (h : Below w.heap.size w w1) => ref3Sum_any w1 d A ca (la.take 2000) (hA'.below h) (by have := HLA.out; have := HN.out; omega) hd1 hd2)
  clear hba hbb hA hB hla hlb hA' hlla' 
  go_enter Tryz.func4, Tryz.ntmps4
  go_wp2_with fail
  refine (begun_any w).mono ?_
  rintro e w1 ⟨rfl, hb1⟩
  go_wp2_with fail
  refine (floats_any w1 A 2000 ca (la.take 2000) (HA.out.below hb1) HLA.out HN.out).mono ?_
  rintro e w2 ⟨g, cf, rfl, hf2, b2⟩
  have hb2 := hb1.trans (b2.mono hb1.size)
  clear hb1 b2
  go_wp2_with fail
  refine (floats_any w2 B m cb lb (HB.out.below hb2) HLB.out HM.out).mono ?_
  rintro e w3 ⟨g', cf', rfl, hg3, b3⟩
  have hf3 := hf2.below b3
  have hb3 := hb2.trans (b3.mono hb2.size)
  clear hb2 b3 hf2
  have hsum := sum_any w3 d (some ⟨g, 0, none⟩) cf (la.take 2000) (hf3.row HBA.out) (by have := HLA.out; have := HN.out; omega) hd1 hd2
  rw [HLA.out] at hsum
  have hru := HSU.out
  rw [HLA.out] at hru
  clear HSU
  revert hsum hru
  generalize roundS d (sumS (la.take 2000)) = R
  intro hsum hru
  obtain ⟨rd, hdot, hrd⟩ := dot_both d (some ⟨g, 0, none⟩) (some ⟨g', 0, none⟩) A B cf cf' ca cb 2000 m (la.take 2000) lb HLA.out HLB.out HN.out hd1 hd2
  go_wp2_with fail
  refine hsum.mono ?_
  rintro e w4 ⟨rfl, b4⟩
  have hf4 := hf3.below b4
  have hg4 := hg3.below b4
  have hb4 := hb3.trans (b4.mono hb3.size)
  clear hf3 hg3 hb3 b4 hsum
  have hru4 := hru w4 hb4
  clear hru
  go_wp2_with fail
  refine hru4.mono ?_
  rintro e w5 ⟨rfl, b5⟩
  have hf5 := hf4.below b5
  have hg5 := hg4.below b5
  have hb5 := hb4.trans (b5.mono hb4.size)
  clear hf4 hg4 hb4 b5 hru4
  have hdt := hdot w5 (hf5.row HBA.out) (hg5.row HBB.out)
  clear hdot
  go_wp2_with fail
  refine hdt.mono ?_
  rintro e w6 ⟨rfl, b6⟩
  have hf6 := hf5.below b6
  have hg6 := hg5.below b6
  have hb6 := hb5.trans (b6.mono hb5.size)
  clear hf5 hg5 hb5 b6 hdt
  have hdt := hrd w6 (HA.out.below hb6) (HB.out.below hb6)
  clear hrd
  go_wp2_with fail
  refine hdt.mono ?_
  rintro e w7 ⟨rfl, b7⟩
  have hf7 := hf6.below b7
  have hg7 := hg6.below b7
  have hb7 := hb6.trans (b7.mono hb6.size)
  clear hf6 hg6 hb6 b7 hdt
  have hs1 := same_any w7 R.1 R.1 R.2 rfl
  have hs2 := same_any w7 rd.1 rd.1 rd.2 rfl
  have ht1 := stand_any w7 g cf A 2000 ca (la.take 2000) (HA.out.below hb7) hf7 HLA.out HN.out
  have ht2 := fun w8 (h : Below w.heap.size w w8) h2 => stand_any w8 g' cf' B m cb lb (HB.out.below h) h2 HLB.out HM.out
  clear HA HB HBA HBB HLA HLB HN HM hf7
  generalize R.1 = R1 at *
  generalize R.2 = R2 at *
  generalize rd.1 = D1 at *
  generalize rd.2 = D2 at *
  go_wp2_with fail
  refine hs1.mono ?_
  rintro e w8 ⟨rfl, rfl⟩
  clear hs1
  go_wp2_with fail
  refine hs2.mono ?_
  rintro e w9 ⟨rfl, rfl⟩
  clear hs2
  go_wp2_with fail
  refine ht1.mono ?_
  rintro e w10 ⟨rfl, b10⟩
  have hg10 := hg7.below b10
  have hb10 := hb7.trans (b10.mono hb7.size)
  clear ht1 hg7 hb7 b10
  have ht3 := ht2 w10 hb10 hg10
  clear ht2
  go_wp2_with fail
  refine ht3.mono ?_
  rintro e w11 ⟨rfl, b11⟩
  have hb11 := hb10.trans (b11.mono hb10.size)
  clear ht3 hg10 hb10 b11
  go_wp2_with fail
  go_ret
  exact ⟨rfl, hb11⟩
set_option maxHeartbeats 4000000 in
theorem sums_bb (w : World) (d : Int) (A B : Option Addr) (n m ca cb : Nat) (la lb : List Nat) (hA : LRow w A la) (hB : LRow w B lb) (hla : la.length = n) (hlb : lb.length = m) (hd1 : -9223372036854775808 ≤ d) (hd2 : d ≤ 9223372036854775807) (hca : n ≤ ca) (hcb : m ≤ cb) (hn : 2000 < n) (hm : 2000 < m) :
    Calls Tryz.prog 4 #[.int .i64 d, .slice A n ca, .slice B m cb] w fun e w' => e = .returned (.bool true) ∧ Below w.heap.size w w' := by
  have htn : (2000 : Int) < (n : Int) := by omega
  have hsn : (2000 : Int) ≤ (ca : Int) := by omega
  have hlla' : (la.take 2000).length = 2000 := by rw [List.length_take]; omega
  have hA' := hA.take 2000
  have htm : (2000 : Int) < (m : Int) := by omega
  have hsm : (2000 : Int) ≤ (cb : Int) := by omega
  have hllb' : (lb.take 2000).length = 2000 := by rw [List.length_take]; omega
  have hB' := hB.take 2000
  have HA := Lib.hid hA'
  have HB := Lib.hid hB'
  have hba := hA'.all
  have hbb := hB'.all
  have HLA := Lib.hid hlla'
  have HLB := Lib.hid hllb'
  have HBA := Lib.hid hba
  have HBB := Lib.hid hbb
  have HN : Hid (2000 ≤ 2000) := Lib.hid (Nat.le_refl _)
  have HM : Hid (2000 ≤ 2000) := Lib.hid (Nat.le_refl _)
  have HSU := Lib.hid (fun w1 (h : Below w.heap.size w w1) => ref3Sum_any w1 d A ca (la.take 2000) (hA'.below h) (by have := HLA.out; have := HN.out; omega) hd1 hd2)
  clear hba hbb hA hB hla hlb hA' hlla' hB' hllb'
  go_enter Tryz.func4, Tryz.ntmps4
  go_wp2_with fail
  refine (begun_any w).mono ?_
  rintro e w1 ⟨rfl, hb1⟩
  go_wp2_with fail
  refine (floats_any w1 A 2000 ca (la.take 2000) (HA.out.below hb1) HLA.out HN.out).mono ?_
  rintro e w2 ⟨g, cf, rfl, hf2, b2⟩
  have hb2 := hb1.trans (b2.mono hb1.size)
  clear hb1 b2
  go_wp2_with fail
  refine (floats_any w2 B 2000 cb (lb.take 2000) (HB.out.below hb2) HLB.out HM.out).mono ?_
  rintro e w3 ⟨g', cf', rfl, hg3, b3⟩
  have hf3 := hf2.below b3
  have hb3 := hb2.trans (b3.mono hb2.size)
  clear hb2 b3 hf2
  have hsum := sum_any w3 d (some ⟨g, 0, none⟩) cf (la.take 2000) (hf3.row HBA.out) (by have := HLA.out; have := HN.out; omega) hd1 hd2
  rw [HLA.out] at hsum
  have hru := HSU.out
  rw [HLA.out] at hru
  clear HSU
  revert hsum hru
  generalize roundS d (sumS (la.take 2000)) = R
  intro hsum hru
  obtain ⟨rd, hdot, hrd⟩ := dot_both d (some ⟨g, 0, none⟩) (some ⟨g', 0, none⟩) A B cf cf' ca cb 2000 2000 (la.take 2000) (lb.take 2000) HLA.out HLB.out HN.out hd1 hd2
  go_wp2_with fail
  refine hsum.mono ?_
  rintro e w4 ⟨rfl, b4⟩
  have hf4 := hf3.below b4
  have hg4 := hg3.below b4
  have hb4 := hb3.trans (b4.mono hb3.size)
  clear hf3 hg3 hb3 b4 hsum
  have hru4 := hru w4 hb4
  clear hru
  go_wp2_with fail
  refine hru4.mono ?_
  rintro e w5 ⟨rfl, b5⟩
  have hf5 := hf4.below b5
  have hg5 := hg4.below b5
  have hb5 := hb4.trans (b5.mono hb4.size)
  clear hf4 hg4 hb4 b5 hru4
  have hdt := hdot w5 (hf5.row HBA.out) (hg5.row HBB.out)
  clear hdot
  go_wp2_with fail
  refine hdt.mono ?_
  rintro e w6 ⟨rfl, b6⟩
  have hf6 := hf5.below b6
  have hg6 := hg5.below b6
  have hb6 := hb5.trans (b6.mono hb5.size)
  clear hf5 hg5 hb5 b6 hdt
  have hdt := hrd w6 (HA.out.below hb6) (HB.out.below hb6)
  clear hrd
  go_wp2_with fail
  refine hdt.mono ?_
  rintro e w7 ⟨rfl, b7⟩
  have hf7 := hf6.below b7
  have hg7 := hg6.below b7
  have hb7 := hb6.trans (b7.mono hb6.size)
  clear hf6 hg6 hb6 b7 hdt
  have hs1 := same_any w7 R.1 R.1 R.2 rfl
  have hs2 := same_any w7 rd.1 rd.1 rd.2 rfl
  have ht1 := stand_any w7 g cf A 2000 ca (la.take 2000) (HA.out.below hb7) hf7 HLA.out HN.out
  have ht2 := fun w8 (h : Below w.heap.size w w8) h2 => stand_any w8 g' cf' B 2000 cb (lb.take 2000) (HB.out.below h) h2 HLB.out HM.out
  clear HA HB HBA HBB HLA HLB HN HM hf7
  generalize R.1 = R1 at *
  generalize R.2 = R2 at *
  generalize rd.1 = D1 at *
  generalize rd.2 = D2 at *
  go_wp2_with fail
  refine hs1.mono ?_
  rintro e w8 ⟨rfl, rfl⟩
  clear hs1
  go_wp2_with fail
  refine hs2.mono ?_
  rintro e w9 ⟨rfl, rfl⟩
  clear hs2
  go_wp2_with fail
  refine ht1.mono ?_
  rintro e w10 ⟨rfl, b10⟩
  have hg10 := hg7.below b10
  have hb10 := hb7.trans (b10.mono hb7.size)
  clear ht1 hg7 hb7 b10
  have ht3 := ht2 w10 hb10 hg10
  clear ht2
  go_wp2_with fail
  refine ht3.mono ?_
  rintro e w11 ⟨rfl, b11⟩
  have hb11 := hb10.trans (b11.mono hb10.size)
  clear ht3 hg10 hb10 b11
  go_wp2_with fail
  go_ret
  exact ⟨rfl, hb11⟩
theorem sums_any (w : World) (d : Int) (A B : Option Addr) (n m ca cb : Nat) (la lb : List Nat) (hA : LRow w A la) (hB : LRow w B lb) (hla : la.length = n) (hlb : lb.length = m) (hd1 : -9223372036854775808 ≤ d) (hd2 : d ≤ 9223372036854775807) (hca : n ≤ ca) (hcb : m ≤ cb) :
    Calls Tryz.prog 4 #[.int .i64 d, .slice A n ca, .slice B m cb] w fun e w' => e = .returned (.bool true) ∧ Below w.heap.size w w' := by
  by_cases hn : n ≤ 2000
  · by_cases hm : m ≤ 2000
    · exact sums_ss w d A B n m ca cb la lb hA hB hla hlb hd1 hd2 hca hcb hn hm
    · exact sums_sb w d A B n m ca cb la lb hA hB hla hlb hd1 hd2 hca hcb hn (by omega)
  · by_cases hm : m ≤ 2000
    · exact sums_bs w d A B n m ca cb la lb hA hB hla hlb hd1 hd2 hca hcb (by omega) hm
    · exact sums_bb w d A B n m ca cb la lb hA hB hla hlb hd1 hd2 hca hcb (by omega) (by omega)
end Go.Proofs.YtopilodakphhgaaGreatDoor
