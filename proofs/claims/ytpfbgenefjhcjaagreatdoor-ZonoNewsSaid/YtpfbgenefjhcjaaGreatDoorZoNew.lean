/- zono.New. -/
import Derived.Test.YtpfbgenefjhcjaaGreatDoorZoNewD
import Derived.Test.YtpfbgenefjhcjaaGreatDoorPZoRea
import Derived.Test.YtpfbgenefjhcjaaGreatDoorPZoHel
namespace Go.Proofs.YtpfbgenefjhcjaaGreatDoor
set_option linter.unusedVariables false
set_option linter.unusedSimpArgs false
open Go Go.RowKit
attribute [local go_sem] Oper.semAt_some
set_option maxRecDepth 100000
set_option maxHeartbeats 16000000 in
theorem New_any (w : World) (A C : Option Addr) (kA kC : Nat) (c : List Nat) (gs : List (List Nat)) (n m : Nat) (hc : FR w A c) (hcs : Small c) (hcn : c.length = n) (hn : n ≤ MAXF) (hg : GR w C gs) (hgn : gs.length = m) (hm : m ≤ MAXG) (hgo : ∀ g ∈ gs, Small g ∧ g.length ≤ MAXF) :
    Calls Tryz.prog 45 #[.slice A n kA, .slice C m kC] w fun e w' => ∃ v, e = .returned v ∧ ZOwn w.heap.size w' v (newD c gs) ∧ Below w.heap.size w w' := by
  have k0 := ZB.new w (.int .i64 0) (.slice none 0 0) (.slice none 0 0) (.slice none 0 0) (.slice none 0 0) (.bool false)
  have hbW := below_alloc w (.cells #[.int .i64 0, .slice none 0 0, .slice none 0 0, .slice none 0 0, .slice none 0 0, .bool false] 26)
  go_enter Tryz.func45, Tryz.ntmps45
  go_upto_region 1 with fail
  generalize w.alloc (.cells #[.int .i64 0, .slice none 0 0, .slice none 0 0, .slice none 0 0, .slice none 0 0, .bool false] 26) = W at *
  have hnm := maxF hn
  have hPl := fun w1 (hb : Below W.heap.size W w1) => plain2_any w1 A n kA c (hc.below (Nat.le_refl _) (hbW.trans (hb.mono hbW.size))) hcn hn hcs
  go_cut [5] from 8 to 15 (fun v wx => ∃ (gb g3 gR : Nat) (cs : List Nat), v = .pointer (some ⟨gb, 0, none⟩) ∧ PlainL c cs ∧ NSt W gb n (.slice (some ⟨g3, 0, none⟩) n n) (.slice (some ⟨gR, 0, none⟩) n n) cs (List.replicate n 0) wx (.slice none 0 0) (.slice none 0 0) [] [] [])
  case first =>
    have hS : ∀ W', Below W.heap.size W W' → True := fun _ _ => trivial
    have hd := (Below.refl W.heap.size W).drew
    refine late_begin (fun _ => True) [9] (by kernel_rfl) ?_
    refine late_take (i := 0) (v := ?_) (some 8) rfl rfl (by kernel_rfl) (by kernel_rfl) (by kernel_rfl) (by kernel_rfl) (fun _ _ _ h => h) (by kernel_rfl) (hS _ hd) ?_ ?_
    rotate_left
    · (intro w hSw; (try dsimp only at hSw); go_simp; try rfl)
    try simp only [Act.put, List.setIfInBounds_toArray, List.set_cons_zero, List.set_cons_succ]
    refine late_take (i := 1) (v := ?_) (some 9) rfl rfl (by kernel_rfl) (by kernel_rfl) (by kernel_rfl) (by kernel_rfl) (fun _ _ _ h => h) (by kernel_rfl) (hS _ hd) ?_ ?_
    rotate_left
    · (intro w hSw; (try dsimp only at hSw); go_simp; try rfl)
    try simp only [Act.put, List.setIfInBounds_toArray, List.set_cons_zero, List.set_cons_succ]
    refine late_take (i := 2) (v := ?_) (some 10) rfl rfl (by kernel_rfl) (by kernel_rfl) (by kernel_rfl) (by kernel_rfl) (fun _ _ _ h => h) (by kernel_rfl) (hS _ hd) ?_ ?_
    rotate_left
    · (intro w hSw; (try dsimp only at hSw); go_simp; try rfl)
    try simp only [Act.put, List.setIfInBounds_toArray, List.set_cons_zero, List.set_cons_succ]
    refine late_take (i := 4) (v := ?_) (some 12) rfl rfl (by kernel_rfl) (by kernel_rfl) (by kernel_rfl) (by kernel_rfl) (fun _ _ _ h => h) (by kernel_rfl) (hS _ hd) ?_ ?_
    rotate_left
    · (intro w hSw; (try dsimp only at hSw); go_simp; try rfl)
    try simp only [Act.put, List.setIfInBounds_toArray, List.set_cons_zero, List.set_cons_succ]
    refine late_take (i := 5) (v := ?_) (some 13) rfl rfl (by kernel_rfl) (by kernel_rfl) (by kernel_rfl) (by kernel_rfl) (fun _ _ _ h => h) (by kernel_rfl) (hS _ hd) ?_ ?_
    rotate_left
    · (intro w hSw; (try dsimp only at hSw); go_simp; try rfl)
    try simp only [Act.put, List.setIfInBounds_toArray, List.set_cons_zero, List.set_cons_succ]
    refine late_three (i := 3) (j := 6) (l := 8) rfl rfl rfl (by kernel_rfl) ?_ ?_ ?_
    · intro K hK
      go_simp
      refine (hPl _ hd).mono ?_
      rintro e w3 ⟨g3, cs, rfl, hl3, hPL, hF3, hb3⟩
      have hp := hd.trans (hb3.mono hd.size)
      have hF3l := hF3.lt
      have hg3 : W.heap.size ≤ g3 := Nat.le_trans hd.size hl3
      try show K _ _
      refine hK.out _ _ (Or.inr (hS _ hp)) ?_
      clear hK K
      try simp only [Act.put, List.setIfInBounds_toArray, List.set_cons_zero, List.set_cons_succ]
      refine late_both (i := 6) (j := 8) rfl rfl (by kernel_rfl) ?_ ?_
      · intro K hK
        have hmk := make_fltsM n hn
        go_simp
        have hR1 : FlB (w3.alloc (.cells (madeCells #[.float .f64 0] n) 43)) w3.heap.size n (List.replicate n 0) := FlB.made w3 n
        have hRl1 := hR1.lt
        have hRlo : W.heap.size ≤ w3.heap.size := hp.size
        have hm := hp.alloc hp.size (.cells (madeCells #[.float .f64 0] n) 43)
        have hne : g3 ≠ w3.heap.size := by have := hF3.lt; omega
        replace hF3 := hF3.below (below_alloc w3 (.cells (madeCells #[.float .f64 0] n) 43))
        have hWm : w3.heap.size < (w3.alloc (.cells (madeCells #[.float .f64 0] n) 43)).heap.size := hRl1
        clear hmk
        generalize w3.alloc (.cells (madeCells #[.float .f64 0] n) 43) = Wm at *
        generalize w3.heap.size = gR at *
        have hR := hR1
        have hRl := hRl1
        try show K _ _
        refine hK.out _ _ (Or.inr (hS _ hm)) ?_
        clear hK K
        try simp only [Act.put, List.setIfInBounds_toArray, List.set_cons_zero, List.set_cons_succ]
        refine late_take (i := 7) (v := ?_) (some 15) rfl rfl (by kernel_rfl) (by kernel_rfl) (by kernel_rfl) (by kernel_rfl) (fun _ _ _ h => h) (by kernel_rfl) (hS _ hm) ?_ ?_
        rotate_left
        · (intro w hSw; (try dsimp only at hSw); go_simp; try rfl)
        try simp only [Act.put, List.setIfInBounds_toArray, List.set_cons_zero, List.set_cons_succ]
        refine late_one (i := 8) rfl (by kernel_rfl) ?_
        intro K hK
        go_simp
        have hz1 : ZB (Wm.alloc (.cells #[.int .i64 0, .slice none 0 0, .slice none 0 0, .slice none 0 0, .slice none 0 0, .bool false] 26)) Wm.heap.size _ _ _ _ _ _ := ZB.new Wm _ _ _ _ _ _
        have hlo := hm.size
        have ha := hm.alloc hm.size (.cells #[.int .i64 0, .slice none 0 0, .slice none 0 0, .slice none 0 0, .slice none 0 0, .bool false] 26)
        replace hF3 := hF3.below (below_alloc Wm (.cells #[.int .i64 0, .slice none 0 0, .slice none 0 0, .slice none 0 0, .slice none 0 0, .bool false] 26))
        replace hR := hR.below (below_alloc Wm (.cells #[.int .i64 0, .slice none 0 0, .slice none 0 0, .slice none 0 0, .slice none 0 0, .bool false] 26))
        generalize Wm.alloc (.cells #[.int .i64 0, .slice none 0 0, .slice none 0 0, .slice none 0 0, .slice none 0 0, .bool false] 26) = Wa at *
        generalize Wm.heap.size = gb at *
        have hz0 := hz1
        try show K _ _
        refine hK.out _ _ (Or.inr (hS _ ha)) ?_
        clear hK K
        try simp only [Act.put, List.setIfInBounds_toArray, List.set_cons_zero, List.set_cons_succ]
        refine late_one (i := 9) rfl (by kernel_rfl) ?_
        intro K hK
        obtain ⟨z0, z1, z2, z3, z4, z5⟩ := cells6 hz0
        have hfr := fun j => frozen_of_row _ _ j _ _ hz0
        go_simp
        try show K _ _
        refine hK.out _ _ (Or.inl (by decide)) ?_
        clear hK K
        try simp only [Act.put, List.setIfInBounds_toArray, List.set_cons_zero, List.set_cons_succ]
        refine late_done (by kernel_rfl) ?_ _
        have hst := fun (hq : _) => NSt.start (n := (n : Int)) (ha.trans (below_row (set6 hz0 (.int .i64 (n : Int)) (.slice (some ⟨g3, 0, none⟩) n n) (.slice none 0 0) (.slice none 0 0) (.slice (some ⟨gR, 0, none⟩) n n) (.bool false)).2 hlo ha.size)) (set6 hz0 (.int .i64 (n : Int)) (.slice (some ⟨g3, 0, none⟩) n n) (.slice none 0 0) (.slice none 0 0) (.slice (some ⟨gR, 0, none⟩) n n) (.bool false)).1 (hF3.farR (set6 hz0 _ _ _ _ _ _).2 (fun k e => by cases e; exact ZB.typed hz0) (by decide)) (by rw [hPL.len, hcn]) hnm (hR.farR (set6 hz0 _ _ _ _ _ _).2 (fun k e => by cases e; exact ZB.typed hz0) (by decide)) (by rw [List.length_replicate]) hnm hlo hg3 hq hne
        go_wp2_with fail
        go_meet
        case rel => exact ⟨_, _, _, _, rfl, hPL, hst (by omega)⟩
      · intro K hK
        go_simp
        have hz1 : ZB (w3.alloc (.cells #[.int .i64 0, .slice none 0 0, .slice none 0 0, .slice none 0 0, .slice none 0 0, .bool false] 26)) w3.heap.size _ _ _ _ _ _ := ZB.new w3 _ _ _ _ _ _
        have hlo := hp.size
        have ha := hp.alloc hp.size (.cells #[.int .i64 0, .slice none 0 0, .slice none 0 0, .slice none 0 0, .slice none 0 0, .bool false] 26)
        replace hF3 := hF3.below (below_alloc w3 (.cells #[.int .i64 0, .slice none 0 0, .slice none 0 0, .slice none 0 0, .slice none 0 0, .bool false] 26))
        generalize w3.alloc (.cells #[.int .i64 0, .slice none 0 0, .slice none 0 0, .slice none 0 0, .slice none 0 0, .bool false] 26) = Wa at *
        generalize w3.heap.size = gb at *
        have hz0 := hz1
        try show K _ _
        refine hK.out _ _ (Or.inr (hS _ ha)) ?_
        clear hK K
        try simp only [Act.put, List.setIfInBounds_toArray, List.set_cons_zero, List.set_cons_succ]
        refine late_one (i := 6) rfl (by kernel_rfl) ?_
        intro K hK
        have hmk := make_fltsM n hn
        go_simp
        have hR1 : FlB (Wa.alloc (.cells (madeCells #[.float .f64 0] n) 43)) Wa.heap.size n (List.replicate n 0) := FlB.made Wa n
        have hRl1 := hR1.lt
        have hRlo : W.heap.size ≤ Wa.heap.size := ha.size
        have hm := ha.alloc ha.size (.cells (madeCells #[.float .f64 0] n) 43)
        have hne : g3 ≠ Wa.heap.size := by have := hF3.lt; omega
        replace hF3 := hF3.below (below_alloc Wa (.cells (madeCells #[.float .f64 0] n) 43))
        replace hz0 := hz0.below (below_alloc Wa (.cells (madeCells #[.float .f64 0] n) 43))
        have hWm : Wa.heap.size < (Wa.alloc (.cells (madeCells #[.float .f64 0] n) 43)).heap.size := hRl1
        clear hmk
        generalize Wa.alloc (.cells (madeCells #[.float .f64 0] n) 43) = Wm at *
        generalize Wa.heap.size = gR at *
        have hR := hR1
        have hRl := hRl1
        try show K _ _
        refine hK.out _ _ (Or.inr (hS _ hm)) ?_
        clear hK K
        try simp only [Act.put, List.setIfInBounds_toArray, List.set_cons_zero, List.set_cons_succ]
        refine late_take (i := 7) (v := ?_) (some 15) rfl rfl (by kernel_rfl) (by kernel_rfl) (by kernel_rfl) (by kernel_rfl) (fun _ _ _ h => h) (by kernel_rfl) (hS _ hm) ?_ ?_
        rotate_left
        · (intro w hSw; (try dsimp only at hSw); go_simp; try rfl)
        try simp only [Act.put, List.setIfInBounds_toArray, List.set_cons_zero, List.set_cons_succ]
        refine late_one (i := 9) rfl (by kernel_rfl) ?_
        intro K hK
        obtain ⟨z0, z1, z2, z3, z4, z5⟩ := cells6 hz0
        have hfr := fun j => frozen_of_row _ _ j _ _ hz0
        go_simp
        try show K _ _
        refine hK.out _ _ (Or.inl (by decide)) ?_
        clear hK K
        try simp only [Act.put, List.setIfInBounds_toArray, List.set_cons_zero, List.set_cons_succ]
        refine late_done (by kernel_rfl) ?_ _
        have hst := fun (hq : _) => NSt.start (n := (n : Int)) (hm.trans (below_row (set6 hz0 (.int .i64 (n : Int)) (.slice (some ⟨g3, 0, none⟩) n n) (.slice none 0 0) (.slice none 0 0) (.slice (some ⟨gR, 0, none⟩) n n) (.bool false)).2 hlo hm.size)) (set6 hz0 (.int .i64 (n : Int)) (.slice (some ⟨g3, 0, none⟩) n n) (.slice none 0 0) (.slice none 0 0) (.slice (some ⟨gR, 0, none⟩) n n) (.bool false)).1 (hF3.farR (set6 hz0 _ _ _ _ _ _).2 (fun k e => by cases e; exact ZB.typed hz0) (by decide)) (by rw [hPL.len, hcn]) hnm (hR.farR (set6 hz0 _ _ _ _ _ _).2 (fun k e => by cases e; exact ZB.typed hz0) (by decide)) (by rw [List.length_replicate]) hnm hlo hg3 hq hne
        go_wp2_with fail
        go_meet
        case rel => exact ⟨_, _, _, _, rfl, hPL, hst (by omega)⟩
    · intro K hK
      have hmk := make_fltsM n hn
      go_simp
      have hR : FlB (W.alloc (.cells (madeCells #[.float .f64 0] n) 43)).drew W.heap.size n (List.replicate n 0) := FlB.made W n
      have hRl : W.heap.size < (W.alloc (.cells (madeCells #[.float .f64 0] n) 43)).drew.heap.size := hR.lt
      have hRlo := Nat.le_refl W.heap.size
      have hm : Below W.heap.size W (W.alloc (.cells (madeCells #[.float .f64 0] n) 43)).drew := ((Below.refl _ _).alloc (Nat.le_refl _) _).drew
      clear hmk
      generalize (W.alloc (.cells (madeCells #[.float .f64 0] n) 43)).drew = Wm at *
      obtain ⟨gR, hgR⟩ : ∃ g, W.heap.size = g := ⟨_, rfl⟩
      rw [hgR] at hR hRl hRlo ⊢
      try show K _ _
      refine hK.out _ _ (Or.inr (hS _ hm)) ?_
      clear hK K
      try simp only [Act.put, List.setIfInBounds_toArray, List.set_cons_zero, List.set_cons_succ]
      refine late_both (i := 3) (j := 8) rfl rfl (by kernel_rfl) ?_ ?_
      · intro K hK
        go_simp
        refine (hPl _ hm).mono ?_
        rintro e w3 ⟨g3, cs, rfl, hl3, hPL, hF3, hb3⟩
        have hp := hm.trans (hb3.mono hm.size)
        have hF3l := hF3.lt
        have hg3 : W.heap.size ≤ g3 := Nat.le_trans hm.size hl3
        have hRl3 := hR.lt
        have hne : g3 ≠ gR := by omega
        replace hR := hR.below hb3
        try show K _ _
        refine hK.out _ _ (Or.inr (hS _ hp)) ?_
        clear hK K
        try simp only [Act.put, List.setIfInBounds_toArray, List.set_cons_zero, List.set_cons_succ]
        refine late_take (i := 7) (v := ?_) (some 15) rfl rfl (by kernel_rfl) (by kernel_rfl) (by kernel_rfl) (by kernel_rfl) (fun _ _ _ h => h) (by kernel_rfl) (hS _ hp) ?_ ?_
        rotate_left
        · (intro w hSw; (try dsimp only at hSw); go_simp; try rfl)
        try simp only [Act.put, List.setIfInBounds_toArray, List.set_cons_zero, List.set_cons_succ]
        refine late_one (i := 8) rfl (by kernel_rfl) ?_
        intro K hK
        go_simp
        have hz1 : ZB (w3.alloc (.cells #[.int .i64 0, .slice none 0 0, .slice none 0 0, .slice none 0 0, .slice none 0 0, .bool false] 26)) w3.heap.size _ _ _ _ _ _ := ZB.new w3 _ _ _ _ _ _
        have hlo := hp.size
        have ha := hp.alloc hp.size (.cells #[.int .i64 0, .slice none 0 0, .slice none 0 0, .slice none 0 0, .slice none 0 0, .bool false] 26)
        replace hF3 := hF3.below (below_alloc w3 (.cells #[.int .i64 0, .slice none 0 0, .slice none 0 0, .slice none 0 0, .slice none 0 0, .bool false] 26))
        replace hR := hR.below (below_alloc w3 (.cells #[.int .i64 0, .slice none 0 0, .slice none 0 0, .slice none 0 0, .slice none 0 0, .bool false] 26))
        generalize w3.alloc (.cells #[.int .i64 0, .slice none 0 0, .slice none 0 0, .slice none 0 0, .slice none 0 0, .bool false] 26) = Wa at *
        generalize w3.heap.size = gb at *
        have hz0 := hz1
        try show K _ _
        refine hK.out _ _ (Or.inr (hS _ ha)) ?_
        clear hK K
        try simp only [Act.put, List.setIfInBounds_toArray, List.set_cons_zero, List.set_cons_succ]
        refine late_one (i := 9) rfl (by kernel_rfl) ?_
        intro K hK
        obtain ⟨z0, z1, z2, z3, z4, z5⟩ := cells6 hz0
        have hfr := fun j => frozen_of_row _ _ j _ _ hz0
        go_simp
        try show K _ _
        refine hK.out _ _ (Or.inl (by decide)) ?_
        clear hK K
        try simp only [Act.put, List.setIfInBounds_toArray, List.set_cons_zero, List.set_cons_succ]
        refine late_done (by kernel_rfl) ?_ _
        have hst := fun (hq : _) => NSt.start (n := (n : Int)) (ha.trans (below_row (set6 hz0 (.int .i64 (n : Int)) (.slice (some ⟨g3, 0, none⟩) n n) (.slice none 0 0) (.slice none 0 0) (.slice (some ⟨gR, 0, none⟩) n n) (.bool false)).2 hlo ha.size)) (set6 hz0 (.int .i64 (n : Int)) (.slice (some ⟨g3, 0, none⟩) n n) (.slice none 0 0) (.slice none 0 0) (.slice (some ⟨gR, 0, none⟩) n n) (.bool false)).1 (hF3.farR (set6 hz0 _ _ _ _ _ _).2 (fun k e => by cases e; exact ZB.typed hz0) (by decide)) (by rw [hPL.len, hcn]) hnm (hR.farR (set6 hz0 _ _ _ _ _ _).2 (fun k e => by cases e; exact ZB.typed hz0) (by decide)) (by rw [List.length_replicate]) hnm hlo hg3 hq hne
        go_wp2_with fail
        go_meet
        case rel => exact ⟨_, _, _, _, rfl, hPL, hst (by omega)⟩
      · intro K hK
        go_simp
        have hz1 : ZB (Wm.alloc (.cells #[.int .i64 0, .slice none 0 0, .slice none 0 0, .slice none 0 0, .slice none 0 0, .bool false] 26)) Wm.heap.size _ _ _ _ _ _ := ZB.new Wm _ _ _ _ _ _
        have hlo := hm.size
        have ha := hm.alloc hm.size (.cells #[.int .i64 0, .slice none 0 0, .slice none 0 0, .slice none 0 0, .slice none 0 0, .bool false] 26)
        replace hR := hR.below (below_alloc Wm (.cells #[.int .i64 0, .slice none 0 0, .slice none 0 0, .slice none 0 0, .slice none 0 0, .bool false] 26))
        generalize Wm.alloc (.cells #[.int .i64 0, .slice none 0 0, .slice none 0 0, .slice none 0 0, .slice none 0 0, .bool false] 26) = Wa at *
        generalize Wm.heap.size = gb at *
        have hz0 := hz1
        try show K _ _
        refine hK.out _ _ (Or.inr (hS _ ha)) ?_
        clear hK K
        try simp only [Act.put, List.setIfInBounds_toArray, List.set_cons_zero, List.set_cons_succ]
        refine late_one (i := 3) rfl (by kernel_rfl) ?_
        intro K hK
        go_simp
        refine (hPl _ ha).mono ?_
        rintro e w3 ⟨g3, cs, rfl, hl3, hPL, hF3, hb3⟩
        have hp := ha.trans (hb3.mono ha.size)
        have hF3l := hF3.lt
        have hg3 : W.heap.size ≤ g3 := Nat.le_trans ha.size hl3
        have hz0l := ZB.lt hz0
        replace hz0 := ZB.below hz0 hb3
        have hRl3 := hR.lt
        have hne : g3 ≠ gR := by omega
        replace hR := hR.below hb3
        try show K _ _
        refine hK.out _ _ (Or.inr (hS _ hp)) ?_
        clear hK K
        try simp only [Act.put, List.setIfInBounds_toArray, List.set_cons_zero, List.set_cons_succ]
        refine late_take (i := 7) (v := ?_) (some 15) rfl rfl (by kernel_rfl) (by kernel_rfl) (by kernel_rfl) (by kernel_rfl) (fun _ _ _ h => h) (by kernel_rfl) (hS _ hp) ?_ ?_
        rotate_left
        · (intro w hSw; (try dsimp only at hSw); go_simp; try rfl)
        try simp only [Act.put, List.setIfInBounds_toArray, List.set_cons_zero, List.set_cons_succ]
        refine late_one (i := 9) rfl (by kernel_rfl) ?_
        intro K hK
        obtain ⟨z0, z1, z2, z3, z4, z5⟩ := cells6 hz0
        have hfr := fun j => frozen_of_row _ _ j _ _ hz0
        go_simp
        try show K _ _
        refine hK.out _ _ (Or.inl (by decide)) ?_
        clear hK K
        try simp only [Act.put, List.setIfInBounds_toArray, List.set_cons_zero, List.set_cons_succ]
        refine late_done (by kernel_rfl) ?_ _
        have hst := fun (hq : _) => NSt.start (n := (n : Int)) (hp.trans (below_row (set6 hz0 (.int .i64 (n : Int)) (.slice (some ⟨g3, 0, none⟩) n n) (.slice none 0 0) (.slice none 0 0) (.slice (some ⟨gR, 0, none⟩) n n) (.bool false)).2 hlo hp.size)) (set6 hz0 (.int .i64 (n : Int)) (.slice (some ⟨g3, 0, none⟩) n n) (.slice none 0 0) (.slice none 0 0) (.slice (some ⟨gR, 0, none⟩) n n) (.bool false)).1 (hF3.farR (set6 hz0 _ _ _ _ _ _).2 (fun k e => by cases e; exact ZB.typed hz0) (by decide)) (by rw [hPL.len, hcn]) hnm (hR.farR (set6 hz0 _ _ _ _ _ _).2 (fun k e => by cases e; exact ZB.typed hz0) (by decide)) (by rw [List.length_replicate]) hnm hlo hg3 hq hne
        go_wp2_with fail
        go_meet
        case rel => exact ⟨_, _, _, _, rfl, hPL, hst (by omega)⟩
    · intro K hK
      go_simp
      have hz0 : ZB (W.alloc (.cells #[.int .i64 0, .slice none 0 0, .slice none 0 0, .slice none 0 0, .slice none 0 0, .bool false] 26)).drew W.heap.size _ _ _ _ _ _ := ZB.new W _ _ _ _ _ _
      have hlo := Nat.le_refl W.heap.size
      have ha : Below W.heap.size W (W.alloc (.cells #[.int .i64 0, .slice none 0 0, .slice none 0 0, .slice none 0 0, .slice none 0 0, .bool false] 26)).drew := ((Below.refl _ _).alloc (Nat.le_refl _) _).drew
      have haa : W.heap.size ≤ (W.alloc (.cells #[.int .i64 0, .slice none 0 0, .slice none 0 0, .slice none 0 0, .slice none 0 0, .bool false] 26)).drew.heap.size := ha.size
      generalize (W.alloc (.cells #[.int .i64 0, .slice none 0 0, .slice none 0 0, .slice none 0 0, .slice none 0 0, .bool false] 26)).drew = Wa at *
      try show K _ _
      refine hK.out _ _ (Or.inr (hS _ ha)) ?_
      clear hK K
      try simp only [Act.put, List.setIfInBounds_toArray, List.set_cons_zero, List.set_cons_succ]
      refine late_both (i := 3) (j := 6) rfl rfl (by kernel_rfl) ?_ ?_
      · intro K hK
        go_simp
        refine (hPl _ ha).mono ?_
        rintro e w3 ⟨g3, cs, rfl, hl3, hPL, hF3, hb3⟩
        have hp := ha.trans (hb3.mono ha.size)
        have hF3l := hF3.lt
        have hg3 : W.heap.size ≤ g3 := Nat.le_trans ha.size hl3
        have hz0l := ZB.lt hz0
        replace hz0 := ZB.below hz0 hb3
        try show K _ _
        refine hK.out _ _ (Or.inr (hS _ hp)) ?_
        clear hK K
        try simp only [Act.put, List.setIfInBounds_toArray, List.set_cons_zero, List.set_cons_succ]
        refine late_one (i := 6) rfl (by kernel_rfl) ?_
        intro K hK
        have hmk := make_fltsM n hn
        go_simp
        have hR1 : FlB (w3.alloc (.cells (madeCells #[.float .f64 0] n) 43)) w3.heap.size n (List.replicate n 0) := FlB.made w3 n
        have hRl1 := hR1.lt
        have hRlo : W.heap.size ≤ w3.heap.size := hp.size
        have hm := hp.alloc hp.size (.cells (madeCells #[.float .f64 0] n) 43)
        have hne : g3 ≠ w3.heap.size := by have := hF3.lt; omega
        replace hF3 := hF3.below (below_alloc w3 (.cells (madeCells #[.float .f64 0] n) 43))
        replace hz0 := hz0.below (below_alloc w3 (.cells (madeCells #[.float .f64 0] n) 43))
        have hWm : w3.heap.size < (w3.alloc (.cells (madeCells #[.float .f64 0] n) 43)).heap.size := hRl1
        clear hmk
        generalize w3.alloc (.cells (madeCells #[.float .f64 0] n) 43) = Wm at *
        generalize w3.heap.size = gR at *
        have hR := hR1
        have hRl := hRl1
        try show K _ _
        refine hK.out _ _ (Or.inr (hS _ hm)) ?_
        clear hK K
        try simp only [Act.put, List.setIfInBounds_toArray, List.set_cons_zero, List.set_cons_succ]
        refine late_take (i := 7) (v := ?_) (some 15) rfl rfl (by kernel_rfl) (by kernel_rfl) (by kernel_rfl) (by kernel_rfl) (fun _ _ _ h => h) (by kernel_rfl) (hS _ hm) ?_ ?_
        rotate_left
        · (intro w hSw; (try dsimp only at hSw); go_simp; try rfl)
        try simp only [Act.put, List.setIfInBounds_toArray, List.set_cons_zero, List.set_cons_succ]
        refine late_one (i := 9) rfl (by kernel_rfl) ?_
        intro K hK
        obtain ⟨z0, z1, z2, z3, z4, z5⟩ := cells6 hz0
        have hfr := fun j => frozen_of_row _ _ j _ _ hz0
        go_simp
        try show K _ _
        refine hK.out _ _ (Or.inl (by decide)) ?_
        clear hK K
        try simp only [Act.put, List.setIfInBounds_toArray, List.set_cons_zero, List.set_cons_succ]
        refine late_done (by kernel_rfl) ?_ _
        have hst := fun (hq : _) => NSt.start (n := (n : Int)) (hm.trans (below_row (set6 hz0 (.int .i64 (n : Int)) (.slice (some ⟨g3, 0, none⟩) n n) (.slice none 0 0) (.slice none 0 0) (.slice (some ⟨gR, 0, none⟩) n n) (.bool false)).2 hlo hm.size)) (set6 hz0 (.int .i64 (n : Int)) (.slice (some ⟨g3, 0, none⟩) n n) (.slice none 0 0) (.slice none 0 0) (.slice (some ⟨gR, 0, none⟩) n n) (.bool false)).1 (hF3.farR (set6 hz0 _ _ _ _ _ _).2 (fun k e => by cases e; exact ZB.typed hz0) (by decide)) (by rw [hPL.len, hcn]) hnm (hR.farR (set6 hz0 _ _ _ _ _ _).2 (fun k e => by cases e; exact ZB.typed hz0) (by decide)) (by rw [List.length_replicate]) hnm hlo hg3 hq hne
        go_wp2_with fail
        go_meet
        case rel => exact ⟨_, _, _, _, rfl, hPL, hst (by omega)⟩
      · intro K hK
        have hmk := make_fltsM n hn
        go_simp
        have hR1 : FlB (Wa.alloc (.cells (madeCells #[.float .f64 0] n) 43)) Wa.heap.size n (List.replicate n 0) := FlB.made Wa n
        have hRl1 := hR1.lt
        have hRlo : W.heap.size ≤ Wa.heap.size := ha.size
        have hm := ha.alloc ha.size (.cells (madeCells #[.float .f64 0] n) 43)
        replace hz0 := hz0.below (below_alloc Wa (.cells (madeCells #[.float .f64 0] n) 43))
        have hWm : Wa.heap.size < (Wa.alloc (.cells (madeCells #[.float .f64 0] n) 43)).heap.size := hRl1
        clear hmk
        generalize Wa.alloc (.cells (madeCells #[.float .f64 0] n) 43) = Wm at *
        generalize Wa.heap.size = gR at *
        have hR := hR1
        have hRl := hRl1
        try show K _ _
        refine hK.out _ _ (Or.inr (hS _ hm)) ?_
        clear hK K
        try simp only [Act.put, List.setIfInBounds_toArray, List.set_cons_zero, List.set_cons_succ]
        refine late_one (i := 3) rfl (by kernel_rfl) ?_
        intro K hK
        go_simp
        refine (hPl _ hm).mono ?_
        rintro e w3 ⟨g3, cs, rfl, hl3, hPL, hF3, hb3⟩
        have hp := hm.trans (hb3.mono hm.size)
        have hF3l := hF3.lt
        have hg3 : W.heap.size ≤ g3 := Nat.le_trans hm.size hl3
        have hz0l := ZB.lt hz0
        replace hz0 := ZB.below hz0 hb3
        have hRl3 := hR.lt
        have hne : g3 ≠ gR := by omega
        replace hR := hR.below hb3
        try show K _ _
        refine hK.out _ _ (Or.inr (hS _ hp)) ?_
        clear hK K
        try simp only [Act.put, List.setIfInBounds_toArray, List.set_cons_zero, List.set_cons_succ]
        refine late_take (i := 7) (v := ?_) (some 15) rfl rfl (by kernel_rfl) (by kernel_rfl) (by kernel_rfl) (by kernel_rfl) (fun _ _ _ h => h) (by kernel_rfl) (hS _ hp) ?_ ?_
        rotate_left
        · (intro w hSw; (try dsimp only at hSw); go_simp; try rfl)
        try simp only [Act.put, List.setIfInBounds_toArray, List.set_cons_zero, List.set_cons_succ]
        refine late_one (i := 9) rfl (by kernel_rfl) ?_
        intro K hK
        obtain ⟨z0, z1, z2, z3, z4, z5⟩ := cells6 hz0
        have hfr := fun j => frozen_of_row _ _ j _ _ hz0
        go_simp
        try show K _ _
        refine hK.out _ _ (Or.inl (by decide)) ?_
        clear hK K
        try simp only [Act.put, List.setIfInBounds_toArray, List.set_cons_zero, List.set_cons_succ]
        refine late_done (by kernel_rfl) ?_ _
        have hst := fun (hq : _) => NSt.start (n := (n : Int)) (hp.trans (below_row (set6 hz0 (.int .i64 (n : Int)) (.slice (some ⟨g3, 0, none⟩) n n) (.slice none 0 0) (.slice none 0 0) (.slice (some ⟨gR, 0, none⟩) n n) (.bool false)).2 hlo hp.size)) (set6 hz0 (.int .i64 (n : Int)) (.slice (some ⟨g3, 0, none⟩) n n) (.slice none 0 0) (.slice none 0 0) (.slice (some ⟨gR, 0, none⟩) n n) (.bool false)).1 (hF3.farR (set6 hz0 _ _ _ _ _ _).2 (fun k e => by cases e; exact ZB.typed hz0) (by decide)) (by rw [hPL.len, hcn]) hnm (hR.farR (set6 hz0 _ _ _ _ _ _).2 (fun k e => by cases e; exact ZB.typed hz0) (by decide)) (by rw [List.length_replicate]) hnm hlo hg3 hq hne
        go_wp2_with fail
        go_meet
        case rel => exact ⟨_, _, _, _, rfl, hPL, hst (by omega)⟩
  case rest =>
    obtain ⟨gb, gC, gR, cs, rfl, hPC, hU⟩ := hcut
    clear hPl
    have hmG := hm
    unfold MAXG at hmG
    unfold MAXF at hn
    go_wp2_with fail
    go_loopw [18] (fun kk wr => ∃ (k : Nat) (vi vg : Value) (vals : List Value) (gs' : List (List Nat)), k ≤ m ∧ kk = .int .i64 (k : Nat) ∧ PlainG (gs.take k) gs' ∧ NSt W gb n (.slice (some ⟨gC, 0, none⟩) n n) (.slice (some ⟨gR, 0, none⟩) n n) cs (List.replicate n 0) wr vi vg vals (idsN k) gs') (fun kk _ => m - (intOf kk).toNat)
    case atStart => exact ⟨0, _, _, [], [], Nat.zero_le _, rfl, PlainG.nil, hU⟩
    case round =>
      obtain ⟨k, vi, vg, vals, gs', hk', rfl, hPG, hst⟩ := hrel
      clear hU
      by_cases hlt : k < m
      · have hlt' : (k : Int) < (m : Int) := by omega
        obtain ⟨g', hg0⟩ := get_some gs k (by omega)
        obtain ⟨bg, og, rfl, hbg, Bk, capk, hcg0, hcap, hcm, hRg⟩ := hg k g' hg0
        have hgs := (hgo g' (List.mem_of_getElem? hg0)).1
        have hgl := (hgo g' (List.mem_of_getElem? hg0)).2
        have HT := Lib.hid (take_more gs k g' hg0)
        have hcg := (hst.bel.cell (p := ⟨bg, og + k, none⟩) (Nat.lt_of_lt_of_le hbg hbW.size)).trans ((hbW.cell (p := ⟨bg, og + k, none⟩) hbg).trans hcg0)
        have hvl : vals.length ≤ k := by rw [hst.col, hPG.len]; exact List.length_take_le _ _
        have hil : (idsN k).length ≤ k := Nat.le_of_eq (idsN_length k)
        have hst4 := hst.b (below_alloc wr (.cells #[.int .i64 (k : Int)] 3))
        have q2 := (cells6 hst.out).2.2.1
        have HI := Lib.hid (idsN_succ k)
        clear hg0 hcg0
        generalize idsN k = idk at *
        go_upto_region 6 with (at_builtin; refine wpList_app1 cI 8 (.int .i64 0) 23 3 Tryz.underlying23 infoInt rfl rfl (.tmp 24) (.tmp 26) rfl W.heap.size vi idk (k : Int) _ wr.heap.size rfl rfl hst4.ids rfl rfl (cell_new0 wr _ 3) (by omega) (by omega) hst4.size ?_; intro v5 w5 ho5 hg5 _; obtain ⟨A5, c5, hv5, _⟩ := ho5.lat; rw [List.length_append, List.length_singleton] at hv5; subst hv5; obtain ⟨kz, kst⟩ := hst4.putIds ho5 hg5; have KK := Lib.hid kst; clear kst ho5 hg5; obtain ⟨y0, y1, y2, y3, y4, y5⟩ := cells6 kz; have fr5 := (fun j => frozen_of_row w5 _ j _ _ kz))
        have hs5 := KK.out
        clear kz KK y0 y1 y2 y3 y4 y5 fr5 hst4 hst q2 hcg
        generalize w5.setCell ⟨gb, 2, none⟩ (.slice A5 (idk.length + 1) c5) = W5 at *
        have hS : ∀ W', Below W5.heap.size W5 W' → (fun w' => w'.cell? ⟨gb, 3, none⟩ = some vg) W' := fun W' hb => (cells6 (hs5.b hb).out).2.2.2.1
        have hd := (Below.refl W5.heap.size W5).drew
        refine late_begin (fun w' => w'.cell? ⟨gb, 3, none⟩ = some vg) [7] (by kernel_rfl) ?_
        refine late_take (i := 0) (v := ?_) (some 29) rfl rfl (by kernel_rfl) (by kernel_rfl) (by kernel_rfl) (by kernel_rfl) (fun _ _ _ h => h) (by kernel_rfl) (hS _ hd) ?_ ?_
        rotate_left
        · (intro w hSw; (try dsimp only at hSw); go_simp; try rfl)
        try simp only [Act.put, List.setIfInBounds_toArray, List.set_cons_zero, List.set_cons_succ]
        refine late_take (i := 1) (v := ?_) (some 30) rfl rfl (by kernel_rfl) (by kernel_rfl) (by kernel_rfl) (by kernel_rfl) (fun _ _ _ h => h) (by kernel_rfl) (hS _ hd) ?_ ?_
        rotate_left
        · (intro w hSw; (try dsimp only at hSw); go_simp; try rfl)
        try simp only [Act.put, List.setIfInBounds_toArray, List.set_cons_zero, List.set_cons_succ]
        refine late_take (i := 2) (v := ?_) (some 31) rfl rfl (by kernel_rfl) (by kernel_rfl) (by kernel_rfl) (by kernel_rfl) (fun _ _ _ h => h) (by kernel_rfl) (hS _ hd) ?_ ?_
        rotate_left
        · (intro w hSw; (try dsimp only at hSw); go_simp; try rfl)
        try simp only [Act.put, List.setIfInBounds_toArray, List.set_cons_zero, List.set_cons_succ]
        refine late_one (i := 3) rfl (by kernel_rfl) ?_
        intro K hK
        go_simp
        refine (plain2_any _ Bk g'.length capk g' (hRg.below (Nat.le_refl _) (hbW.trans ((hs5.b hd).bel.mono hbW.size))) rfl hgl hgs).mono ?_
        rintro e w6 ⟨g6, us6, rfl, hl6, hP6, hF6, hb6⟩
        have hc6 := hd.trans (hb6.mono hd.size)
        try show K _ _
        refine hK.out _ _ (Or.inr (hS _ hc6)) ?_
        clear hK K
        try simp only [Act.put, List.setIfInBounds_toArray, List.set_cons_zero, List.set_cons_succ]
        refine late_one (i := 4) rfl (by kernel_rfl) ?_
        intro K hK
        go_simp
        have ha := hc6.alloc hc6.size (.cells #[.slice (some ⟨g6, 0, none⟩) g'.length g'.length] 22)
        try show K _ _
        refine hK.out _ _ (Or.inr (hS _ ha)) ?_
        clear hK K
        try simp only [Act.put, List.setIfInBounds_toArray, List.set_cons_zero, List.set_cons_succ]
        refine late_one (i := 5) rfl (by kernel_rfl) ?_
        intro K hK
        have hA := hs5.b ha
        have hF7 := (hF6.own hP6.len (show W5.heap.size ≤ g6 from hl6) (maxF hgl)).below (below_alloc w6 (.cells #[.slice (some ⟨g6, 0, none⟩) g'.length g'.length] 22))
        refine step_app1 cV 24 (.slice none 0 0) 24 22 Tryz.underlying24 infoLF rfl rfl _ _ rfl W.heap.size vg vals (.slice (some ⟨g6, 0, none⟩) g'.length g'.length) (.slice (some ⟨g6, 0, none⟩) g'.length g'.length) w6.heap.size rfl rfl hA.g rfl rfl (cell_new0 w6 _ 22) (by omega) (by omega) hA.size ?_
        intro v8 w8 ho8 hg8 _
        obtain ⟨A8', c8', hv8, _⟩ := ho8.lat
        rw [List.length_append, List.length_singleton] at hv8
        subst hv8
        obtain ⟨kz, kst⟩ := hs5.putCol ha hF7 ho8 hg8
        have KK := Lib.hid kst
        clear kst ho8 hg8 hA hF7
        try show K _ _
        refine hK.out _ _ (Or.inr (cells6 kz).2.2.2.1) ?_
        clear hK K
        try simp only [Act.put, List.setIfInBounds_toArray, List.set_cons_zero, List.set_cons_succ]
        refine late_take (i := 6) (v := ?_) (some 35) rfl rfl (by kernel_rfl) (by kernel_rfl) (by kernel_rfl) (by kernel_rfl) (fun _ _ _ h => h) (by kernel_rfl) (cells6 kz).2.2.2.1 ?_ ?_
        rotate_left
        · (intro w hSw; (try dsimp only at hSw); go_simp; try rfl)
        try simp only [Act.put, List.setIfInBounds_toArray, List.set_cons_zero, List.set_cons_succ]
        refine late_one (i := 7) rfl (by kernel_rfl) ?_
        intro K hK
        obtain ⟨z0, z1, z2, z3, z4, z5⟩ := cells6 kz
        have hfr := fun j => frozen_of_row _ _ j _ _ kz
        go_simp
        try show K _ _
        refine hK.out _ _ (Or.inl (by decide)) ?_
        clear hK K
        try simp only [Act.put, List.setIfInBounds_toArray, List.set_cons_zero, List.set_cons_succ]
        refine late_done (by kernel_rfl) ?_ _
        go_wp2_with fail
        have kst := KK.out
        go_roundw
        case rel => exact ⟨k + 1, _, _, _, _, by omega, by go_num, by rw [HT.out]; exact hPG.snoc hP6, HI.out ▸ kst⟩
        case measure => simp [intOf]; omega
      · have hkm : k = m := by omega
        subst hkm
        have hlt' : decide ((k : Int) < (k : Nat)) = false := by simp
        rw [List.take_of_length_le (by omega)] at hPG
        have hcl := hPC.len
        have hgl := hPG.len
        have hE : (⟨(n : Int), cs, idsN k, gs', List.replicate n 0, false⟩ : ZD) = newR cs gs' := by
          unfold newR
          rw [hcl, hgl, hcn, hgn]
        have hok : ZOk (newR cs gs') := newR_ok (hPC.small hcs) (by rw [hcl, hcn]; exact (show n ≤ 17592186043904 from hn)) (hPG.ok hgo) (by rw [hgl, hgn]; exact hm)
        have hgd := good_any wr _ _ hst.own.is (hE ▸ hok)
        have hgg : goodD ⟨(n : Int), cs, idsN k, gs', List.replicate n 0, false⟩ = goodD (newZ c gs) := by rw [hE]; exact new_good hPC hPG
        rw [hgg] at hgd
        obtain ⟨Ac, cc, Ar, cr, Ai, ci, Ag, cg, e1, e2, rfl, rfl⟩ := hst.slices
        obtain ⟨o0, o1, o2, o3, o4, o5⟩ := cells6 hst.out
        clear e1 e2
        have HE := Lib.hid hE
        have HP := Lib.hid (And.intro hPC hPG)
        clear hE hPC hPG hok hcl hgl
        cases hgdv : goodD (newZ c gs) with
        | true =>
          rw [hgdv] at hgd
          have HN := Lib.hid (new_eq HP.out.1 HP.out.2 hgdv)
          have HD := Lib.hid (show newD c gs = newZ c gs by unfold newD; rw [if_pos hgdv])
          clear hgg hgdv
          go_wp2_with fail
          refine hgd.mono ?_
          rintro e w9 ⟨rfl, hb9⟩
          have hst9 := hst.b hb9
          have k1 := k0.below hst9.bel
          have hB9 := hbW.trans (hst9.bel.mono hbW.size)
          clear o0 o1 o2 o3 o4 o5 hgd hst
          obtain ⟨o0, o1, o2, o3, o4, o5⟩ := cells6 hst9.out
          obtain ⟨y0, y1, y2, y3, y4, y5⟩ := cells6 k1
          have hfr := fun j => frozen_of_row w9 _ j _ _ k1
          go_wp2_with fail
          obtain ⟨q1, q2⟩ := set6 k1 (.int .i64 (n : Int)) (.slice (some ⟨gC, 0, none⟩) n n) (.slice Ai (idsN k).length ci) (.slice Ag gs'.length cg) (.slice (some ⟨gR, 0, none⟩) n n) (.bool false)
          obtain ⟨c0, c1, c2, c3, c4, c5⟩ := cells6 q1
          refine bodyPost_ret (v := .agg #[.int .i64 (n : Int), .slice (some ⟨gC, 0, none⟩) n n, .slice Ai (idsN k).length ci, .slice Ag gs'.length cg, .slice (some ⟨gR, 0, none⟩) n n, .bool false]) (by simp [results, Tryz.results45, go_sem, c0, c1, c2, c3, c4, c5]) rfl ?_
          have hfin := hst9.farZ q2 k1.typed
          rw [HE.out, HN.out] at hfin
          have eN : (newZ c gs).n = (n : Int) := by show ((c.length : Nat) : Int) = _; rw [hcn]
          refine ⟨_, rfl, ?_, hB9.trans (below_row q2 (Nat.le_refl _) hB9.size)⟩
          rw [HD.out]
          refine ZOwn.low ⟨_, _, _, _, vals, ?_, hfin⟩ hbW.size
          rw [eN]
          rfl
        | false =>
          rw [hgdv] at hgd
          have HD := Lib.hid (show newD c gs = lostZ 0 by unfold newD; rw [hgdv]; rfl)
          clear hgg hgdv
          go_wp2_with fail
          refine hgd.mono ?_
          rintro e w9 ⟨rfl, hb9⟩
          have hst9 := hst.b hb9
          have k1 := k0.below hst9.bel
          have hB9 := hbW.trans (hst9.bel.mono hbW.size)
          clear o0 o1 o2 o3 o4 o5 hgd hst
          obtain ⟨o0, o1, o2, o3, o4, o5⟩ := cells6 hst9.out
          obtain ⟨y0, y1, y2, y3, y4, y5⟩ := cells6 k1
          have hfr := fun j => frozen_of_row w9 _ j _ _ k1
          go_wp2_with fail
          obtain ⟨q1, q2⟩ := set6 k1 (.int .i64 0) (.slice none 0 0) (.slice none 0 0) (.slice none 0 0) (.slice none 0 0) (.bool true)
          obtain ⟨c0, c1, c2, c3, c4, c5⟩ := cells6 q1
          refine bodyPost_ret (v := .agg #[.int .i64 0, .slice none 0 0, .slice none 0 0, .slice none 0 0, .slice none 0 0, .bool true]) (by simp [results, Tryz.results45, go_sem, c0, c1, c2, c3, c4, c5]) rfl ?_
          rw [HD.out]
          exact ⟨_, rfl, lost_own _ _ _, hB9.trans (below_row q2 (Nat.le_refl _) hB9.size)⟩
end Go.Proofs.YtpfbgenefjhcjaaGreatDoor
