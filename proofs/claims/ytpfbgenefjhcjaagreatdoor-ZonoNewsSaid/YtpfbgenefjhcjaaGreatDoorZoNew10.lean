/- ambitref10.New. -/
import Derived.Test.YtpfbgenefjhcjaaGreatDoorZoU
import Derived.Test.YtpfbgenefjhcjaaGreatDoorZoNewD
import Derived.Test.YtpfbgenefjhcjaaGreatDoorPZoReal2
namespace Go.Proofs.YtpfbgenefjhcjaaGreatDoor
set_option linter.unusedVariables false
set_option linter.unusedSimpArgs false
open Go Go.RowKit
attribute [local go_sem] Oper.semAt_some
set_option maxRecDepth 100000
set_option maxHeartbeats 16000000 in
theorem New10_any (w : World) (A C : Option Addr) (kA kC : Nat) (c : List Nat) (gs : List (List Nat)) (n m : Nat) (hc : UR w A c) (hcs : Small c) (hcn : c.length = n) (hn : n ≤ MAXF) (hg : GU w C gs) (hgn : gs.length = m) (hm : m ≤ MAXG) (hgo : ∀ g ∈ gs, Small g ∧ g.length ≤ MAXF) :
    Calls Tryz.prog 47 #[.slice A n kA, .slice C m kC] w fun e w' => ∃ v, e = .returned v ∧ UIs w' v (newD c gs) ∧ Below w.heap.size w w' := by
  have k0 := UB.new w (.int .i64 0) (.slice none 0 0) (.slice none 0 0) (.slice none 0 0) (.slice none 0 0) (.bool false)
  have hb0 := below_alloc w (.cells #[.int .i64 0, .slice none 0 0, .slice none 0 0, .slice none 0 0, .slice none 0 0, .bool false] 30)
  have hPl := plainAll_any (w.alloc (.cells #[.int .i64 0, .slice none 0 0, .slice none 0 0, .slice none 0 0, .slice none 0 0, .bool false] 30)) A n kA c (hc.below (Nat.le_refl _) hb0) hcs hcn hn
  go_enter Tryz.func47, Tryz.ntmps47
  go_wp2_with fail
  refine hPl.mono ?_
  rintro e w4 ⟨A4, c4, rfl, hT4, hb4⟩
  have hzr := zeros_any w4 n hn
  have hb1 := hb0.trans (hb4.mono hb0.size)
  replace k0 := k0.below hb4
  clear hPl hb0 hb4
  go_wp2_with fail
  refine hzr.mono ?_
  rintro e w7 ⟨g7, rfl, hl7, hZ7, hb7⟩
  replace hb1 := hb1.trans (hb7.mono hb1.size)
  replace k0 := k0.below hb7
  replace hT4 := hT4.below hb7
  clear hzr hb7
  go_upto_region 2 with fail
  have hbo := below_alloc w7 (.cells #[.int .i64 (n : Int), .slice A4 n c4, .slice none 0 0, .slice none 0 0, .slice (some ⟨g7, 0, none⟩) n n, .bool false] 30)
  have hU : LU w7 w7.heap.size (n : Int) A4 (some ⟨g7, 0, none⟩) n c4 n n (c.map plainU) (List.replicate n 0) (w7.alloc (.cells #[.int .i64 (n : Int), .slice A4 n c4, .slice none 0 0, .slice none 0 0, .slice (some ⟨g7, 0, none⟩) n n, .bool false] 30)) (.slice none 0 0) (.slice none 0 0) [] [] [] := LU.start hbo (UB.new w7 _ _ _ _ _ _) (hT4.below hbo) ((hZ7.below hbo).tat hn) (by rw [List.length_map, hcn]) (by rw [List.length_replicate]) (Nat.le_refl _)
  generalize w7.alloc (.cells #[.int .i64 (n : Int), .slice A4 n c4, .slice none 0 0, .slice none 0 0, .slice (some ⟨g7, 0, none⟩) n n, .bool false] 30) = W1 at *
  obtain ⟨gb, hgb⟩ : ∃ b, w7.heap.size = b := ⟨_, rfl⟩
  rw [hgb] at hU ⊢
  clear hbo hZ7 hT4 hl7 hgb
  generalize w7 = W at *
  have hbW := hb1
  have hmG := hm
  unfold MAXG at hmG
  go_wp2_with fail
  go_loopw [6] (fun kk wr => ∃ (k : Nat) (vi vg : Value) (vals : List Value), k ≤ m ∧ kk = .int .i64 (k : Nat) ∧ LU W gb (n : Int) A4 (some ⟨g7, 0, none⟩) n c4 n n (c.map plainU) (List.replicate n 0) wr vi vg vals (idsN k) ((gs.take k).map fun g => g.map plainU)) (fun kk _ => m - (intOf kk).toNat)
  case atStart => exact ⟨0, _, _, [], Nat.zero_le _, rfl, hU⟩
  case round =>
    obtain ⟨k, vi, vg, vals, hk', rfl, hst⟩ := hrel
    clear hU
    by_cases hlt : k < m
    · have hlt' : (k : Int) < (m : Int) := by omega
      obtain ⟨g', hg0⟩ := get_some gs k (by omega)
      obtain ⟨bg, og, rfl, hbg, Bk, capk, hcg0, hcap, hcm, hRg⟩ := hg k g' hg0
      have hgs := (hgo g' (List.mem_of_getElem? hg0)).1
      have hgl := (hgo g' (List.mem_of_getElem? hg0)).2
      have HT := Lib.hid (show (gs.take (k + 1)).map (fun g => g.map plainU) = (gs.take k).map (fun g => g.map plainU) ++ [g'.map plainU] by rw [take_more gs k g' hg0, List.map_append]; rfl)
      have HI := Lib.hid (idsN_succ k)
      have hbgW := Nat.lt_of_lt_of_le hbg hbW.size
      have hcg := (hbW.cell (p := ⟨bg, og + k, none⟩) hbg).trans hcg0
      have hvl : vals.length ≤ k := by rw [hst.vlen, List.length_map]; exact List.length_take_le _ _
      have hil : (idsN k).length ≤ k := Nat.le_of_eq (idsN_length k)
      have hst4 := hst.b (below_alloc wr (.cells #[.int .i64 (k : Int)] 3))
      have q2 := hst.out.cells.2.2.1
      clear hg0 hcg0
      generalize idsN k = idk at *
      go_upto_region 6 with (at_builtin; refine wpList_app1 cI 8 (.int .i64 0) 23 3 Tryz.underlying23 infoInt rfl rfl (.tmp 24) (.tmp 26) rfl W.heap.size vi idk (k : Int) _ wr.heap.size rfl rfl hst4.ids rfl rfl (cell_new0 wr _ 3) (by omega) (by omega) hst4.size ?_; intro v5 w5 ho5 hg5 _; obtain ⟨A5, c5, hv5, _⟩ := ho5.lat; rw [List.length_append, List.length_singleton] at hv5; subst hv5; obtain ⟨kz, kst⟩ := hst4.putIds ho5 hg5; have KK := Lib.hid kst; clear kst ho5 hg5; obtain ⟨y0, y1, y2, y3, y4, y5⟩ := kz.cells; have fr5 := (fun j => kz.frozen j))
      have hs5 := KK.out
      clear kz KK y0 y1 y2 y3 y4 y5 fr5 hst4 hst q2
      generalize w5.setCell ⟨gb, 2, none⟩ (.slice A5 (idk.length + 1) c5) = W5 at *
      have hS0 : ∀ W', Below W.heap.size W W' → W'.cell? ⟨bg, og + k, none⟩ = some (.slice Bk g'.length capk) := fun W' hb => (hb.cell (p := ⟨bg, og + k, none⟩) hbgW).trans hcg
      have hS : ∀ W', Below W5.heap.size W5 W' → (fun w' => w'.cell? ⟨gb, 3, none⟩ = some vg ∧ w'.cell? ⟨bg, og + k, none⟩ = some (.slice Bk g'.length capk)) W' := fun W' hb => ⟨(hs5.b hb).out.cells.2.2.2.1, hS0 _ (hs5.b hb).bel⟩
      have hd := (Below.refl W5.heap.size W5).drew
      refine late_begin (fun w' => w'.cell? ⟨gb, 3, none⟩ = some vg ∧ w'.cell? ⟨bg, og + k, none⟩ = some (.slice Bk g'.length capk)) [10] (by kernel_rfl) ?_
      refine late_take (i := 0) (v := ?_) (some 29) rfl rfl (by kernel_rfl) (by kernel_rfl) (by kernel_rfl) (by kernel_rfl) (fun _ _ _ h => h) (by kernel_rfl) (hS _ hd) ?_ ?_
      rotate_left
      · (intro w hSw; (try dsimp only at hSw); go_simp; try rfl)
      try simp only [Act.put, List.setIfInBounds_toArray, List.set_cons_zero, List.set_cons_succ]
      refine late_take (i := 1) (v := ?_) (some 30) rfl rfl (by kernel_rfl) (by kernel_rfl) (by kernel_rfl) (by kernel_rfl) (fun _ _ _ h => h) (by kernel_rfl) (hS _ hd) ?_ ?_
      rotate_left
      · (intro w hSw; (try dsimp only at hSw); go_simp; try rfl)
      try simp only [Act.put, List.setIfInBounds_toArray, List.set_cons_zero, List.set_cons_succ]
      refine late_take (i := 2) (v := ?_) (some 31) rfl rfl (by kernel_rfl) (by kernel_rfl) (by kernel_rfl) (by kernel_rfl) (fun _ _ _ h => h) (by kernel_rfl) (hS _ hd) ?_ ?_
      rotate_left
      · (intro w hSw; (try dsimp only at hSw); go_simp; try rfl)
      try simp only [Act.put, List.setIfInBounds_toArray, List.set_cons_zero, List.set_cons_succ]
      refine late_take (i := 3) (v := ?_) (some 32) rfl rfl (by kernel_rfl) (by kernel_rfl) (by kernel_rfl) (by kernel_rfl) (fun _ _ _ h => h) (by kernel_rfl) (hS _ hd) ?_ ?_
      rotate_left
      · (intro w hSw; (try dsimp only at hSw); go_simp; try rfl)
      try simp only [Act.put, List.setIfInBounds_toArray, List.set_cons_zero, List.set_cons_succ]
      refine late_take (i := 4) (v := ?_) (some 33) rfl rfl (by kernel_rfl) (by kernel_rfl) (by kernel_rfl) (by kernel_rfl) (fun _ _ _ h => h) (by kernel_rfl) (hS _ hd) ?_ ?_
      rotate_left
      · (intro w hSw; (try dsimp only at hSw); go_simp; try rfl)
      try simp only [Act.put, List.setIfInBounds_toArray, List.set_cons_zero, List.set_cons_succ]
      refine late_take (i := 5) (v := ?_) (some 34) rfl rfl (by kernel_rfl) (by kernel_rfl) (by kernel_rfl) (by kernel_rfl) (fun _ _ _ h => h) (by kernel_rfl) (hS _ hd) ?_ ?_
      rotate_left
      · (intro w hSw; (try dsimp only at hSw); go_simp; try rfl)
      try simp only [Act.put, List.setIfInBounds_toArray, List.set_cons_zero, List.set_cons_succ]
      refine late_one (i := 6) rfl (by kernel_rfl) ?_
      intro K hK
      go_simp
      refine (plainAll_any _ Bk g'.length capk g' (hRg.below (Nat.le_refl _) (hbW.trans ((hs5.b hd).bel.mono hbW.size))) hgs rfl hgl).mono ?_
      rintro e w6 ⟨A6, c6, rfl, hT6, hb6⟩
      have hc6 := hd.trans (hb6.mono hd.size)
      try show K _ _
      refine hK.out _ _ (Or.inr (hS _ hc6)) ?_
      clear hK K
      try simp only [Act.put, List.setIfInBounds_toArray, List.set_cons_zero, List.set_cons_succ]
      refine late_one (i := 7) rfl (by kernel_rfl) ?_
      intro K hK
      go_simp
      have ha := hc6.alloc hc6.size (.cells #[.slice A6 g'.length c6] 27)
      try show K _ _
      refine hK.out _ _ (Or.inr (hS _ ha)) ?_
      clear hK K
      try simp only [Act.put, List.setIfInBounds_toArray, List.set_cons_zero, List.set_cons_succ]
      refine late_one (i := 8) rfl (by kernel_rfl) ?_
      intro K hK
      have hA := hs5.b ha
      have hT7 := hT6.below (below_alloc w6 (.cells #[.slice A6 g'.length c6] 27))
      refine step_app1 cV 24 (.slice none 0 0) 28 27 Tryz.underlying28 infoLU rfl rfl _ _ rfl W.heap.size vg vals (.slice A6 g'.length c6) (.slice A6 g'.length c6) w6.heap.size rfl rfl hA.g.own rfl rfl (cell_new0 w6 (.slice A6 g'.length c6) 27) (by omega) (by omega) hA.size ?_
      intro v8 w8 ho8 hg8 _
      obtain ⟨A8', c8', hv8, _⟩ := ho8.lat
      rw [List.length_append, List.length_singleton] at hv8
      subst hv8
      obtain ⟨kz, kst⟩ := hA.putCol hT7 (List.length_map _) ho8 hg8
      have hW8 := hA.bel.trans (below_ownG hA.g.own hg8 hA.size)
      have KK := Lib.hid kst
      clear kst ho8 hg8 hA hT7
      try show K _ _
      refine hK.out _ _ (Or.inr ⟨kz.cells.2.2.2.1, hS0 _ hW8⟩) ?_
      clear hK K
      try simp only [Act.put, List.setIfInBounds_toArray, List.set_cons_zero, List.set_cons_succ]
      refine late_take (i := 9) (v := ?_) (some 38) rfl rfl (by kernel_rfl) (by kernel_rfl) (by kernel_rfl) (by kernel_rfl) (fun _ _ _ h => h) (by kernel_rfl) ⟨kz.cells.2.2.2.1, hS0 _ hW8⟩ ?_ ?_
      rotate_left
      · (intro w hSw; (try dsimp only at hSw); go_simp; try rfl)
      try simp only [Act.put, List.setIfInBounds_toArray, List.set_cons_zero, List.set_cons_succ]
      refine late_one (i := 10) rfl (by kernel_rfl) ?_
      intro K hK
      obtain ⟨z0, z1, z2, z3, z4, z5⟩ := kz.cells
      have hfr := fun j => kz.frozen j
      go_simp
      try show K _ _
      refine hK.out _ _ (Or.inl (by decide)) ?_
      clear hK K
      try simp only [Act.put, List.setIfInBounds_toArray, List.set_cons_zero, List.set_cons_succ]
      refine late_done (by kernel_rfl) ?_ _
      go_wp2_with fail
      have kst := KK.out
      go_roundw
      case rel => exact ⟨k + 1, _, _, _, by omega, by go_num, by rw [HI.out, HT.out]; exact kst⟩
      case measure => simp [intOf]; omega
    · have hkm : k = m := by omega
      subst hkm
      have hlt' : decide ((k : Int) < (k : Nat)) = false := by simp
      rw [List.take_of_length_le (by omega)] at hst
      have hE : (⟨(n : Int), c.map plainU, idsN k, gs.map fun g => g.map plainU, List.replicate n 0, false⟩ : ZD) = newZ c gs := by
        unfold newZ
        rw [hcn, hgn]
      obtain ⟨Ai, ci, Ag, cg, e1, e2⟩ := hst.slices
      rw [idsN_length] at e1
      rw [List.length_map, hgn] at e2
      subst e1 e2
      have hUI := hst.farZ (grown_refl wr (some gb)) hst.out.typed
      rw [hE] at hUI
      have hok : ZOk (newZ c gs) := by
        rw [newZ_eq]
        refine newR_ok (fun u hu => ?_) (by rw [List.length_map, hcn]; exact hn) (fun u hu => ?_) (by rw [List.length_map, hgn]; exact hm)
        · obtain ⟨v, hv, rfl⟩ := List.mem_map.1 hu
          unfold plainU
          split
          · decide
          · exact hcs v hv
        · obtain ⟨v, hv, rfl⟩ := List.mem_map.1 hu
          refine ⟨fun x hx => ?_, by rw [List.length_map]; exact (hgo v hv).2⟩
          obtain ⟨y, hy, rfl⟩ := List.mem_map.1 hx
          unfold plainU
          split
          · decide
          · exact (hgo v hv).1 y hy
      have hre := Reals_any wr _ _ hUI hok
      have HE := Lib.hid hE
      obtain ⟨o0, o1, o2, o3, o4, o5⟩ := hst.out.cells
      clear hE hUI hok hgn hcn hg hgo hcs hc hm hlt
      cases hgdv : goodD (newZ c gs) with
      | true =>
        have HD := Lib.hid (show newD c gs = newZ c gs by unfold newD; rw [if_pos hgdv])
        go_wp2_with fail
        refine hre.mono ?_
        rintro e w9 (⟨_, v', rfl, ⟨A', B', C', D', kA', kB', kC', kD', rfl, _⟩, hb9⟩ | ⟨hg', rfl, hb9⟩)
        · clear hgdv hre
          unfold rval
          have hbr := below_alloc w9 (.cells #[.int .i64 (newZ c gs).n, .slice A' (newZ c gs).c.length kA', .slice B' (newZ c gs).ids.length kB', .slice C' (newZ c gs).g.length kC', .slice D' (newZ c gs).r.length kD'] 61)
          have hst9 := (hst.b hb9).b hbr
          have k1 := k0.below hst9.bel
          have hB9 := hbW.trans (hst9.bel.mono hbW.size)
          clear o0 o1 o2 o3 o4 o5 hst hb9 hbr
          obtain ⟨o0, o1, o2, o3, o4, o5⟩ := hst9.out.cells
          obtain ⟨y0, y1, y2, y3, y4, y5⟩ := k1.cells
          have hfr := fun j => k1.frozen j
          go_wp2_with fail
          obtain ⟨q1, q2⟩ := k1.put (.int .i64 (n : Int)) (.slice A4 n c4) (.slice Ai k ci) (.slice Ag k cg) (.slice (some ⟨g7, 0, none⟩) n n) (.bool false)
          obtain ⟨c0, c1, c2, c3, c4', c5⟩ := q1.cells
          refine bodyPost_ret (v := .agg #[.int .i64 (n : Int), .slice A4 n c4, .slice Ai k ci, .slice Ag k cg, .slice (some ⟨g7, 0, none⟩) n n, .bool false]) (by simp [results, Tryz.results47, go_sem, c0, c1, c2, c3, c4', c5]) rfl ?_
          have hfin := hst9.farZ q2 k1.typed
          rw [HE.out] at hfin
          rw [HD.out]
          exact ⟨_, rfl, hfin, hB9.trans (below_row q2 (Nat.le_refl _) hB9.size)⟩
        · rw [hgdv] at hg'
          cases hg'
      | false =>
        have HD := Lib.hid (show newD c gs = lostZ 0 by unfold newD; rw [hgdv]; rfl)
        go_wp2_with fail
        refine hre.mono ?_
        rintro e w9 (⟨hg', v', rfl, _, hb9⟩ | ⟨_, rfl, hb9⟩)
        · rw [hgdv] at hg'
          cases hg'
        · clear hgdv hre
          unfold noReal
          have hbr := below_alloc w9 (.cells #[.int .i64 0, .slice none 0 0, .slice none 0 0, .slice none 0 0, .slice none 0 0] 61)
          have hst9 := (hst.b hb9).b hbr
          have k1 := k0.below hst9.bel
          have hB9 := hbW.trans (hst9.bel.mono hbW.size)
          have hlo := Lost10_any (w9.alloc (.cells #[.int .i64 0, .slice none 0 0, .slice none 0 0, .slice none 0 0, .slice none 0 0] 61)) 0
          unfold lostV at hlo
          clear o0 o1 o2 o3 o4 o5 hst hb9 hbr
          go_wp2_with fail
          refine hlo.mono ?_
          rintro e w10 ⟨rfl, hb10⟩
          replace k1 := k1.below hb10
          replace hB9 := hB9.trans (hb10.mono hB9.size)
          clear hlo hst9 hb10
          obtain ⟨y0, y1, y2, y3, y4, y5⟩ := k1.cells
          have hfr := fun j => k1.frozen j
          go_wp2_with fail
          obtain ⟨q1, q2⟩ := k1.put (.int .i64 0) (.slice none 0 0) (.slice none 0 0) (.slice none 0 0) (.slice none 0 0) (.bool true)
          obtain ⟨c0, c1, c2, c3, c4', c5⟩ := q1.cells
          refine bodyPost_ret (v := .agg #[.int .i64 0, .slice none 0 0, .slice none 0 0, .slice none 0 0, .slice none 0 0, .bool true]) (by simp [results, Tryz.results47, go_sem, c0, c1, c2, c3, c4', c5]) rfl ?_
          rw [HD.out]
          exact ⟨_, rfl, lostV_uis _ _, hB9.trans (below_row q2 (Nat.le_refl _) hB9.size)⟩
end Go.Proofs.YtpfbgenefjhcjaaGreatDoor
