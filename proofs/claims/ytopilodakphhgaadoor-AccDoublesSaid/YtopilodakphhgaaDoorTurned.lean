/- ambitlaw3.AccTurned: true. (Printed by gen_turned.py.) -/
import Derived.Test.YtopilodakphhgaaDoorFloats
namespace Go.Proofs.YtopilodakphhgaaDoor
set_option linter.unusedVariables false
set_option linter.unusedSimpArgs false
open Go Go.RowKit
set_option maxRecDepth 100000
theorem float_nat (v : Nat) (w : World) : Calls Tryd.prog 7 #[.int .u64 (v : Nat)] w fun e w' => e = .returned (.float .f64 v) ∧ w' = w := by
  have h := float_any (v : Int) w
  rw [Int.toNat_natCast] at h
  exact h.mono fun e w' ⟨a, b⟩ => ⟨a, b.symm⟩
theorem run_neg_float (v : Nat) (w : World) : Sem.run Tryd.prog (Op.unary UnOp.neg (Value.float FloatKind.f64 v)) w = .ok (.float .f64 (nf v)) w := rfl
theorem bits_nat (v : Nat) (w : World) : Calls Tryd.prog 10 #[.float .f64 v] w fun e w' => e = .returned (.int .u64 (v : Nat)) ∧ w' = w := (bits_any v w).mono fun e w' ⟨a, b⟩ => ⟨a, b.symm⟩
theorem one_row (u : Nat) (hu : u < B64) : ∀ j x : Nat, ([u] : List Nat)[j]? = some x → (#[.float .f64 u] : Array Value)[j]? = some (Value.float .f64 x) ∧ x < B64 := by
  intro j x h
  rcases j with _ | j
  · cases h; exact ⟨rfl, hu⟩
  · simp at h
theorem number_law (u : Nat) (hu : u < B64) (w : World) : Calls Tryd.prog 9 #[.int .u64 (u : Nat)] w fun e w' => e = .returned (.bool (fexp u != 2047)) ∧ w' = w := by
  have h1 := and_exp u hu
  have h2 : (((fexp u : Nat) : Int) != 2047) = (fexp u != 2047) := by
    rw [Bool.eq_iff_iff, bne_iff_ne, bne_iff_ne]; omega
  go_enter Tryd.func9, Tryd.ntmps9
  go_wp2_with fail
  go_ret
  exact ⟨rfl, rfl⟩
theorem below_own {w0 w1 : World} {base : Nat} {v : Value} {us : List Nat} (h : OwnF w0 base v us) (hg : w0.grownBy w1 v.ownBlock) (hb : base ≤ w0.heap.size) : Below base w0 w1 :=
  ⟨hg.os, hg.tape, hg.output, by have := hg.size; omega, fun k hk => hg.block k (by omega) (fun e => by have := (h.lt k e.symm).1; omega)⟩
/-- The two lists that are made, and what they stand beside. -/
structure TurnRel (w wr : World) (vf vg : Value) (us vs : List Nat) : Prop where
  f : OwnF wr w.heap.size vf us
  g : OwnF wr w.heap.size vg vs
  ne : vf.ownBlock = none ∨ vf.ownBlock ≠ vg.ownBlock
  below : Below w.heap.size w wr
theorem TurnRel.ne' {w wr : World} {vf vg : Value} {us vs : List Nat} (h : TurnRel w wr vf vg us vs) : vg.ownBlock = none ∨ vg.ownBlock ≠ vf.ownBlock := by
  rcases h.ne with h1 | h1
  · rw [h1]
    cases vg.ownBlock
    · exact Or.inl rfl
    · exact Or.inr (by simp)
  · exact Or.inr (Ne.symm h1)
theorem TurnRel.alloc {w wr : World} {vf vg : Value} {us vs : List Nat} (h : TurnRel w wr vf vg us vs) (o : Obj) : TurnRel w (wr.alloc o) vf vg us vs :=
  ⟨h.f.kept (World.grownBy_alloc wr o none) (by cases vf.ownBlock <;> simp), h.g.kept (World.grownBy_alloc wr o none) (by cases vg.ownBlock <;> simp), h.ne, h.below.alloc h.below.size _⟩
theorem TurnRel.mono {w wr w2 : World} {vf vg : Value} {us vs : List Nat} (h : TurnRel w wr vf vg us vs) (hb : Below wr.heap.size wr w2) : TurnRel w w2 vf vg us vs :=
  ⟨h.f.kept (grown_of_below (row := none) hb) (by cases vf.ownBlock <;> simp), h.g.kept (grown_of_below (row := none) hb) (by cases vg.ownBlock <;> simp), h.ne, h.below.trans (hb.mono h.below.size)⟩
theorem TurnRel.addF {w wr w2 : World} {vf vf' vg : Value} {us us' vs : List Nat} (h : TurnRel w wr vf vg us vs) (hf : OwnF w2 w.heap.size vf' us') (hg : wr.grownBy w2 vf.ownBlock) (hw : vf'.ownBlock = vf.ownBlock ∨ vf'.ownBlock = some wr.heap.size) : TurnRel w w2 vf' vg us' vs := by
  refine ⟨hf, h.g.kept hg h.ne', ?_, h.below.trans (below_own h.f hg h.below.size)⟩
  rcases hw with hw | hw
  · rw [hw]; exact h.ne
  · rw [hw]
    refine Or.inr fun e => ?_
    have := (h.g.lt _ e.symm).2
    omega
theorem TurnRel.addG {w wr w2 : World} {vf vg vg' : Value} {us vs vs' : List Nat} (h : TurnRel w wr vf vg us vs) (hf : OwnF w2 w.heap.size vg' vs') (hg : wr.grownBy w2 vg.ownBlock) (hw : vg'.ownBlock = vg.ownBlock ∨ vg'.ownBlock = some wr.heap.size) : TurnRel w w2 vf vg' us vs' := by
  refine ⟨h.f.kept hg h.ne, hf, ?_, h.below.trans (below_own h.g hg h.below.size)⟩
  rcases hw with hw | hw
  · rw [hw]; exact h.ne
  · rw [hw]
    refine Or.inr fun e => ?_
    have := (h.f.lt _ e).2
    omega
theorem add_block (x : Addr) (j : Nat) : (x.add j).block = x.block := by unfold Addr.add; split <;> rfl
theorem take_next (ls : List Nat) (k v : Nat) (h : ls[k]? = some v) : ls.take (k + 1) = ls.take k ++ [v] := by rw [List.take_add_one, h]; rfl
/-- The list's elements as they lie in memory. -/
def LRow (w : World) (A : Option Addr) (ls : List Nat) : Prop := ∀ j v : Nat, ls[j]? = some v → ∃ x : Addr, A = some x ∧ x.block < w.heap.size ∧ w.cell? (x.add j) = some (.int .u64 (v : Nat)) ∧ v < B64
theorem LRow.cell {w wr : World} {A : Option Addr} {ls : List Nat} (h : LRow w A ls) (hb : Below w.heap.size w wr) (j v : Nat) (hj : ls[j]? = some v) : ∃ x : Addr, A = some x ∧ wr.cell? (x.add j) = some (.int .u64 (v : Nat)) ∧ v < B64 := by
  obtain ⟨x, h1, h2, h3, h4⟩ := h j v hj
  exact ⟨x, h1, by rw [hb.cell (by rw [add_block]; exact h2)]; exact h3, h4⟩
set_option maxHeartbeats 8000000 in
theorem turned_small (w : World) (u : Nat) (A : Option Addr) (n cap : Nat) (ls : List Nat) (hu : u < B64) (hrow : LRow w A ls) (hls : ls.length = n) (hn : n ≤ 500) (hc : n ≤ cap) (hm : cap ≤ maxLen) :
    Calls Tryd.prog 3 #[.int .u64 (u : Nat), .slice A n cap] w fun e w' => e = .returned (.bool true) ∧ Below w.heap.size w w' := by
  obtain ⟨N, rfl⟩ : ∃ N, N = n := ⟨_, rfl⟩
  have ht : decide ((500 : Int) < (N : Int)) = false := by simp; omega
  have hNl : N ≤ 500 := by omega
  have hNn : N ≤ ls.length := by omega
  have HL := Lib.hid hls
  clear hls
  go_enter Tryd.func3, Tryd.ntmps3
  go_wp2_with fail
  refine (begun_any w).mono ?_
  rintro e w1 ⟨rfl, hb1⟩
  have hrel0 : TurnRel w w1 (.slice none 0 0) (.slice none 0 0) (ls.take 0) ((ls.take 0).map nf) := ⟨OwnF.nil _ _, OwnF.nil _ _, Or.inl rfl, hb1⟩
  clear hb1
  go_wp2_with fail
  go_loopw [5, 6, 7] (fun vf vg i wr => ∃ k : Nat, k ≤ N ∧ i = .int .i64 (k : Nat) ∧ TurnRel w wr vf vg (ls.take k) ((ls.take k).map nf)) (fun _ _ i _ => N - (intOf i).toNat)
  case atStart => exact ⟨0, by omega, rfl, hrel0⟩
  case round =>
    obtain ⟨k, hk, rfl, hr⟩ := hrel
    clear hrel0
    by_cases hlt : k < N
    · have hlt' : (k : Int) < (N : Int) := by omega
      obtain ⟨v, hv⟩ : ∃ v, ls[k]? = some v := ⟨ls[k]'(by omega), List.getElem?_eq_getElem _⟩
      obtain ⟨x, rfl, hcell, hvB⟩ := hrow.cell hr.below k v hv
      have hvl : (v : Int) ≤ 18446744073709551615 := by unfold B64 at hvB; omega
      have hrA := hr.alloc (.cells #[.float .f64 v] 26)
      have hcA : (wr.alloc (.cells #[.float .f64 v] 26)).cell? ⟨wr.heap.size, 0, none⟩ = some (.float .f64 v) := by
        rw [cell_of_row _ _ _ _ _ _ (heap_alloc_new wr _)]; rfl
      have hlen : (ls.take k).length ≤ 1000000 := by rw [List.length_take]; omega
      have hsz := hrA.below.size
      have HV := Lib.hid (take_next ls k v hv)
      have hfl := float_nat v
      clear hr
      go_wp2_with fail
      refine (hfl _).mono ?_
      rintro e w' ⟨rfl, rfl⟩
      go_wp2_with (at_builtin; refine wpList_append_f rfl (.tmp 28) (.tmp 34) rfl w.heap.size _ _ v w'.heap.size 1 rfl rfl hrA.f hcA hlen hsz ?_; intro vf2 w2 hf2 hg2 hw2; have hr2 := hrA.addF hf2 hg2 hw2; clear hf2 hg2 hw2 hrA hcA hsz; obtain ⟨x2, hx2, hcell2, _⟩ := hrow.cell hr2.below k v hv; injection hx2 with hx2; subst hx2)
      have hrB := hr2.alloc (.cells #[.float .f64 (nf v)] 26)
      have hcB : (w2.alloc (.cells #[.float .f64 (nf v)] 26)).cell? ⟨w2.heap.size, 0, none⟩ = some (.float .f64 (nf v)) := by
        rw [cell_of_row _ _ _ _ _ _ (heap_alloc_new w2 _)]; rfl
      have hlenB : ((ls.take k).map nf).length ≤ 1000000 := by rw [List.length_map]; exact hlen
      have hszB := hrB.below.size
      have hun := run_neg_float v
      go_wp2_with fail
      refine (hfl _).mono ?_
      rintro e w3 ⟨rfl, rfl⟩
      go_wp2_with (at_builtin; refine wpList_append_f rfl (.tmp 36) (.tmp 43) rfl w.heap.size _ _ (nf v) w3.heap.size 1 rfl rfl hrB.g hcB hlenB hszB ?_; intro vg2 w4 hf4 hg4 hw4; have hr4 := hrB.addG hf4 hg4 hw4; clear hf4 hg4 hw4 hrB hcB hszB hr2)
      go_wp2_with fail
      go_roundw
      case rel => exact ⟨k + 1, by omega, by go_num, by rw [HV.out, List.map_append]; exact hr4⟩
      case measure => simp [intOf]; omega
    · obtain rfl : k = N := by omega
      have hlt' : decide ((k : Int) < (k : Nat)) = false := by simp
      have hr1 := hr
      clear hr
      obtain ⟨w1, rfl⟩ : ∃ w1 : World, w1 = wr := ⟨_, rfl⟩
      go_wp2_with fail
      go_loopw [8] (fun i wr => ∃ d : Nat, d ≤ 3 ∧ i = .int .i64 (d : Nat) ∧ TurnRel w wr u5 u6 (ls.take k) ((ls.take k).map nf)) (fun i _ => 3 - (intOf i).toNat)
      case atStart => exact ⟨0, by omega, rfl, hr1⟩
      case round =>
        obtain ⟨d, hd, rfl, hr⟩ := hrel
        clear hr1
        by_cases hdlt : d < 3
        · have hdlt' : (d : Int) < 3 := by omega
          have hrA := hr.alloc (.cells #[.float .f64 u] 26)
          have hsum := sum_any (wr.alloc (.cells #[.float .f64 u] 26)) (d : Int) (some ⟨wr.heap.size, 0, none⟩) 1 [u] (Or.inr ⟨wr.heap.size, _, _, rfl, heap_alloc_new wr _, one_row u hu⟩) (by simp) (by omega) (by omega)
          have hfl := float_nat u
          have hnm := number_law u hu
          have hul : (u : Int) ≤ 18446744073709551615 := by unfold B64 at hu; omega
          clear hr
          by_cases he : fexp u = 2047
          · rw [round_none (d : Int) u he] at hsum
            have he2 : (fexp u != 2047) = false := by rw [he]; rfl
            rw [he2] at hnm
            clear he he2
            have hbt := bits_nat 0
            go_wp2_with fail
            refine (hfl _).mono ?_
            rintro e w2 ⟨rfl, rfl⟩
            go_wp2_with fail
            refine hsum.mono ?_
            rintro e w3 ⟨rfl, hb3⟩
            have hr3 := hrA.mono hb3
            clear hrA hb3 hsum
            go_wp2_with fail
            refine (hnm _).mono ?_
            rintro e w4 ⟨rfl, rfl⟩
            go_wp2_with fail
            refine (hbt _).mono ?_
            rintro e w5 ⟨rfl, rfl⟩
            go_wp2_with fail
            go_roundw
            case rel => exact ⟨d + 1, by omega, by go_num, hr3⟩
            case measure => simp [intOf]; omega
          · rw [round_one (d : Int) u hu he (by omega) (by omega)] at hsum
            have he2 : (fexp u != 2047) = true := by rw [bne_iff_ne]; exact he
            rw [he2] at hnm
            have hne : FloatKind.f64.format.order (canon u) u = some .eq := by
              have := canon_eq u he
              rwa [beq_iff_eq] at this
            have hcn : (((canon u : Nat) : Int) == 9223372036854775808) = false := by
              have := canon_ne u
              rw [beq_eq_false_iff_ne]; omega
            clear he he2
            generalize canon u = cu at *
            have hbt := bits_nat cu
            go_wp2_with fail
            refine (hfl _).mono ?_
            rintro e w2 ⟨rfl, rfl⟩
            go_wp2_with fail
            refine hsum.mono ?_
            rintro e w3 ⟨rfl, hb3⟩
            have hr3 := hrA.mono hb3
            clear hrA hb3 hsum
            go_wp2_with fail
            refine (hnm _).mono ?_
            rintro e w4 ⟨rfl, rfl⟩
            go_wp2_with fail
            refine (hfl _).mono ?_
            rintro e w5 ⟨rfl, rfl⟩
            go_wp2_with fail
            refine (hbt _).mono ?_
            rintro e w6 ⟨rfl, rfl⟩
            go_wp2_with fail
            go_roundw
            case rel => exact ⟨d + 1, by omega, by go_num, hr3⟩
            case measure => simp [intOf]; omega
        · obtain rfl : d = 3 := by omega
          have hB : ∀ v ∈ ls.take k, v < B64 := fun v hv => by
            obtain ⟨j, hj⟩ := List.mem_iff_getElem?.1 (List.mem_of_mem_take hv)
            obtain ⟨_, _, _, _, h⟩ := hrow j v hj
            exact h
          have hBn : ∀ v ∈ (ls.take k).map nf, v < B64 := fun v hv => by
            obtain ⟨x, hx, rfl⟩ := List.mem_map.1 hv
            exact nf_lt x (hB x hx)
          have hlen : (ls.take k).length ≤ 1000000 := by rw [List.length_take]; omega
          have hlenB : ((ls.take k).map nf).length ≤ 1000000 := by rw [List.length_map]; exact hlen
          obtain ⟨Af, cf, hvf, hrf⟩ := hr.f.row hB
          obtain ⟨Ag, cg, hvg, hrg⟩ := hr.g.row hBn
          have hs1 := sum_any wr 1 Af cf (ls.take k) hrf hlen (by decide) (by decide)
          have hbel := hr.below
          have hs2 : ∀ w2 : World, Below wr.heap.size wr w2 → Calls Tryd.prog 8 #[.int .i64 2, u6] w2 fun e w' => e = .returned (.tuple #[.float .f64 (roundS 2 (sumS ((ls.take k).map nf))).1, .bool (roundS 2 (sumS ((ls.take k).map nf))).2]) ∧ Below w2.heap.size w2 w' := fun w2 hb => by
            obtain ⟨Ag2, cg2, hvg2, hrg2⟩ := (hr.mono hb).g.row hBn
            rw [hvg2]
            exact sum_any w2 2 Ag2 cg2 _ hrg2 hlenB (by decide) (by decide)
          rw [← hvf] at hs1
          rw [nf_sumS _ hB] at hs2
          obtain ⟨ht1, ht2⟩ := round_turned (sumS (ls.take k))
          obtain ⟨hq1, hq2, hq3⟩ := turned_eq _ _ ht2
          rw [← ht1] at hs2
          revert hs1 hs2 hq1 hq2 hq3
          generalize (roundS 1 (sumS (ls.take k))).1 = ra
          generalize (roundS 1 (sumS (ls.take k))).2 = rok
          generalize (roundS 2 ((sumS (ls.take k)).map (fun x => -x))).1 = rb
          intro hs1 hs2 hq1 hq2 hq3
          have hba := bits_nat ra
          have hbb := bits_nat rb
          have hun := run_neg_float rb
          have hn1 : (((ra : Nat) : Int) != 9223372036854775808) = true := by rw [bne_iff_ne]; omega
          have hn2 : (((rb : Nat) : Int) != 9223372036854775808) = true := by rw [bne_iff_ne]; omega
          clear ht1 ht2 hr hrf hrg hvf hvg hq2 hq3 hB hBn hlen hlenB
          go_wp2_with fail
          refine hs1.mono ?_
          rintro e w2 ⟨rfl, hb2⟩
          have hs2' := hs2 w2 hb2
          have hbel2 := hbel.trans (hb2.mono hbel.size)
          clear hs1 hs2 hbel hb2
          go_wp2_with fail
          refine hs2'.mono ?_
          rintro e w3 ⟨rfl, hb3⟩
          have hbel3 := hbel2.trans (hb3.mono hbel2.size)
          clear hs2' hbel2 hb3
          go_wp2_with fail
          refine (hba _).mono ?_
          rintro e w4 ⟨rfl, rfl⟩
          go_wp2_with fail
          refine (hbb _).mono ?_
          rintro e w5 ⟨rfl, rfl⟩
          go_wp2_with fail
          go_ret
          exact ⟨rfl, hbel3⟩
set_option maxHeartbeats 8000000 in
theorem turned_big (w : World) (u : Nat) (A : Option Addr) (n cap : Nat) (ls : List Nat) (hu : u < B64) (hrow : LRow w A ls) (hls : ls.length = n) (hn : 500 < n) (hc : n ≤ cap) (hm : cap ≤ maxLen) :
    Calls Tryd.prog 3 #[.int .u64 (u : Nat), .slice A n cap] w fun e w' => e = .returned (.bool true) ∧ Below w.heap.size w w' := by
  have ht : (500 : Int) < (n : Int) := by omega
  have hs1 : (500 : Int) ≤ (cap : Int) := by unfold maxLen at hm; omega
  have hNn : 500 ≤ ls.length := by omega
  have HL := Lib.hid hls
  clear hls
  go_enter Tryd.func3, Tryd.ntmps3
  go_wp2_with fail
  refine (begun_any w).mono ?_
  rintro e w1 ⟨rfl, hb1⟩
  have hrel0 : TurnRel w w1 (.slice none 0 0) (.slice none 0 0) (ls.take 0) ((ls.take 0).map nf) := ⟨OwnF.nil _ _, OwnF.nil _ _, Or.inl rfl, hb1⟩
  clear hb1
  go_wp2_with fail
  go_loopw [5, 6, 7] (fun vf vg i wr => ∃ k : Nat, k ≤ 500 ∧ i = .int .i64 (k : Nat) ∧ TurnRel w wr vf vg (ls.take k) ((ls.take k).map nf)) (fun _ _ i _ => 500 - (intOf i).toNat)
  case atStart => exact ⟨0, by omega, rfl, hrel0⟩
  case round =>
    obtain ⟨k, hk, rfl, hr⟩ := hrel
    clear hrel0
    by_cases hlt : k < 500
    · have hlt' : (k : Int) < 500 := by omega
      obtain ⟨v, hv⟩ : ∃ v, ls[k]? = some v := ⟨ls[k]'(by omega), List.getElem?_eq_getElem _⟩
      obtain ⟨x, rfl, hcell, hvB⟩ := hrow.cell hr.below k v hv
      have hvl : (v : Int) ≤ 18446744073709551615 := by unfold B64 at hvB; omega
      have hrA := hr.alloc (.cells #[.float .f64 v] 26)
      have hcA : (wr.alloc (.cells #[.float .f64 v] 26)).cell? ⟨wr.heap.size, 0, none⟩ = some (.float .f64 v) := by
        rw [cell_of_row _ _ _ _ _ _ (heap_alloc_new wr _)]; rfl
      have hlen : (ls.take k).length ≤ 1000000 := by rw [List.length_take]; omega
      have hsz := hrA.below.size
      have HV := Lib.hid (take_next ls k v hv)
      have hfl := float_nat v
      clear hr
      go_wp2_with fail
      refine (hfl _).mono ?_
      rintro e w' ⟨rfl, rfl⟩
      go_wp2_with (at_builtin; refine wpList_append_f rfl (.tmp 28) (.tmp 34) rfl w.heap.size _ _ v w'.heap.size 1 rfl rfl hrA.f hcA hlen hsz ?_; intro vf2 w2 hf2 hg2 hw2; have hr2 := hrA.addF hf2 hg2 hw2; clear hf2 hg2 hw2 hrA hcA hsz; obtain ⟨x2, hx2, hcell2, _⟩ := hrow.cell hr2.below k v hv; injection hx2 with hx2; subst hx2)
      have hrB := hr2.alloc (.cells #[.float .f64 (nf v)] 26)
      have hcB : (w2.alloc (.cells #[.float .f64 (nf v)] 26)).cell? ⟨w2.heap.size, 0, none⟩ = some (.float .f64 (nf v)) := by
        rw [cell_of_row _ _ _ _ _ _ (heap_alloc_new w2 _)]; rfl
      have hlenB : ((ls.take k).map nf).length ≤ 1000000 := by rw [List.length_map]; exact hlen
      have hszB := hrB.below.size
      have hun := run_neg_float v
      go_wp2_with fail
      refine (hfl _).mono ?_
      rintro e w3 ⟨rfl, rfl⟩
      go_wp2_with (at_builtin; refine wpList_append_f rfl (.tmp 36) (.tmp 43) rfl w.heap.size _ _ (nf v) w3.heap.size 1 rfl rfl hrB.g hcB hlenB hszB ?_; intro vg2 w4 hf4 hg4 hw4; have hr4 := hrB.addG hf4 hg4 hw4; clear hf4 hg4 hw4 hrB hcB hszB hr2)
      go_wp2_with fail
      go_roundw
      case rel => exact ⟨k + 1, by omega, by go_num, by rw [HV.out, List.map_append]; exact hr4⟩
      case measure => simp [intOf]; omega
    · have hkN : k = 500 := by omega
      have hlt' : decide ((k : Int) < 500) = false := by simp; omega
      clear hkN
      have hr1 := hr
      clear hr
      obtain ⟨w1, rfl⟩ : ∃ w1 : World, w1 = wr := ⟨_, rfl⟩
      go_wp2_with fail
      go_loopw [8] (fun i wr => ∃ d : Nat, d ≤ 3 ∧ i = .int .i64 (d : Nat) ∧ TurnRel w wr u5 u6 (ls.take k) ((ls.take k).map nf)) (fun i _ => 3 - (intOf i).toNat)
      case atStart => exact ⟨0, by omega, rfl, hr1⟩
      case round =>
        obtain ⟨d, hd, rfl, hr⟩ := hrel
        clear hr1
        by_cases hdlt : d < 3
        · have hdlt' : (d : Int) < 3 := by omega
          have hrA := hr.alloc (.cells #[.float .f64 u] 26)
          have hsum := sum_any (wr.alloc (.cells #[.float .f64 u] 26)) (d : Int) (some ⟨wr.heap.size, 0, none⟩) 1 [u] (Or.inr ⟨wr.heap.size, _, _, rfl, heap_alloc_new wr _, one_row u hu⟩) (by simp) (by omega) (by omega)
          have hfl := float_nat u
          have hnm := number_law u hu
          have hul : (u : Int) ≤ 18446744073709551615 := by unfold B64 at hu; omega
          clear hr
          by_cases he : fexp u = 2047
          · rw [round_none (d : Int) u he] at hsum
            have he2 : (fexp u != 2047) = false := by rw [he]; rfl
            rw [he2] at hnm
            clear he he2
            have hbt := bits_nat 0
            go_wp2_with fail
            refine (hfl _).mono ?_
            rintro e w2 ⟨rfl, rfl⟩
            go_wp2_with fail
            refine hsum.mono ?_
            rintro e w3 ⟨rfl, hb3⟩
            have hr3 := hrA.mono hb3
            clear hrA hb3 hsum
            go_wp2_with fail
            refine (hnm _).mono ?_
            rintro e w4 ⟨rfl, rfl⟩
            go_wp2_with fail
            refine (hbt _).mono ?_
            rintro e w5 ⟨rfl, rfl⟩
            go_wp2_with fail
            go_roundw
            case rel => exact ⟨d + 1, by omega, by go_num, hr3⟩
            case measure => simp [intOf]; omega
          · rw [round_one (d : Int) u hu he (by omega) (by omega)] at hsum
            have he2 : (fexp u != 2047) = true := by rw [bne_iff_ne]; exact he
            rw [he2] at hnm
            have hne : FloatKind.f64.format.order (canon u) u = some .eq := by
              have := canon_eq u he
              rwa [beq_iff_eq] at this
            have hcn : (((canon u : Nat) : Int) == 9223372036854775808) = false := by
              have := canon_ne u
              rw [beq_eq_false_iff_ne]; omega
            clear he he2
            generalize canon u = cu at *
            have hbt := bits_nat cu
            go_wp2_with fail
            refine (hfl _).mono ?_
            rintro e w2 ⟨rfl, rfl⟩
            go_wp2_with fail
            refine hsum.mono ?_
            rintro e w3 ⟨rfl, hb3⟩
            have hr3 := hrA.mono hb3
            clear hrA hb3 hsum
            go_wp2_with fail
            refine (hnm _).mono ?_
            rintro e w4 ⟨rfl, rfl⟩
            go_wp2_with fail
            refine (hfl _).mono ?_
            rintro e w5 ⟨rfl, rfl⟩
            go_wp2_with fail
            refine (hbt _).mono ?_
            rintro e w6 ⟨rfl, rfl⟩
            go_wp2_with fail
            go_roundw
            case rel => exact ⟨d + 1, by omega, by go_num, hr3⟩
            case measure => simp [intOf]; omega
        · obtain rfl : d = 3 := by omega
          have hB : ∀ v ∈ ls.take k, v < B64 := fun v hv => by
            obtain ⟨j, hj⟩ := List.mem_iff_getElem?.1 (List.mem_of_mem_take hv)
            obtain ⟨_, _, _, _, h⟩ := hrow j v hj
            exact h
          have hBn : ∀ v ∈ (ls.take k).map nf, v < B64 := fun v hv => by
            obtain ⟨x, hx, rfl⟩ := List.mem_map.1 hv
            exact nf_lt x (hB x hx)
          have hlen : (ls.take k).length ≤ 1000000 := by rw [List.length_take]; omega
          have hlenB : ((ls.take k).map nf).length ≤ 1000000 := by rw [List.length_map]; exact hlen
          obtain ⟨Af, cf, hvf, hrf⟩ := hr.f.row hB
          obtain ⟨Ag, cg, hvg, hrg⟩ := hr.g.row hBn
          have hs1 := sum_any wr 1 Af cf (ls.take k) hrf hlen (by decide) (by decide)
          have hbel := hr.below
          have hs2 : ∀ w2 : World, Below wr.heap.size wr w2 → Calls Tryd.prog 8 #[.int .i64 2, u6] w2 fun e w' => e = .returned (.tuple #[.float .f64 (roundS 2 (sumS ((ls.take k).map nf))).1, .bool (roundS 2 (sumS ((ls.take k).map nf))).2]) ∧ Below w2.heap.size w2 w' := fun w2 hb => by
            obtain ⟨Ag2, cg2, hvg2, hrg2⟩ := (hr.mono hb).g.row hBn
            rw [hvg2]
            exact sum_any w2 2 Ag2 cg2 _ hrg2 hlenB (by decide) (by decide)
          rw [← hvf] at hs1
          rw [nf_sumS _ hB] at hs2
          obtain ⟨ht1, ht2⟩ := round_turned (sumS (ls.take k))
          obtain ⟨hq1, hq2, hq3⟩ := turned_eq _ _ ht2
          rw [← ht1] at hs2
          revert hs1 hs2 hq1 hq2 hq3
          generalize (roundS 1 (sumS (ls.take k))).1 = ra
          generalize (roundS 1 (sumS (ls.take k))).2 = rok
          generalize (roundS 2 ((sumS (ls.take k)).map (fun x => -x))).1 = rb
          intro hs1 hs2 hq1 hq2 hq3
          have hba := bits_nat ra
          have hbb := bits_nat rb
          have hun := run_neg_float rb
          have hn1 : (((ra : Nat) : Int) != 9223372036854775808) = true := by rw [bne_iff_ne]; omega
          have hn2 : (((rb : Nat) : Int) != 9223372036854775808) = true := by rw [bne_iff_ne]; omega
          clear ht1 ht2 hr hrf hrg hvf hvg hq2 hq3 hB hBn hlen hlenB
          go_wp2_with fail
          refine hs1.mono ?_
          rintro e w2 ⟨rfl, hb2⟩
          have hs2' := hs2 w2 hb2
          have hbel2 := hbel.trans (hb2.mono hbel.size)
          clear hs1 hs2 hbel hb2
          go_wp2_with fail
          refine hs2'.mono ?_
          rintro e w3 ⟨rfl, hb3⟩
          have hbel3 := hbel2.trans (hb3.mono hbel2.size)
          clear hs2' hbel2 hb3
          go_wp2_with fail
          refine (hba _).mono ?_
          rintro e w4 ⟨rfl, rfl⟩
          go_wp2_with fail
          refine (hbb _).mono ?_
          rintro e w5 ⟨rfl, rfl⟩
          go_wp2_with fail
          go_ret
          exact ⟨rfl, hbel3⟩
end Go.Proofs.YtopilodakphhgaaDoor
