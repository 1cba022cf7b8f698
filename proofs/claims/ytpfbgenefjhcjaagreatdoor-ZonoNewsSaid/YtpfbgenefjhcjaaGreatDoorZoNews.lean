/- law10.ZonoNews. -/
import Derived.Test.YtpfbgenefjhcjaaGreatDoorZoNew
import Derived.Test.YtpfbgenefjhcjaaGreatDoorZoNew10
import Derived.Test.YtpfbgenefjhcjaaGreatDoorPZoText
import Derived.Test.YtpfbgenefjhcjaaGreatDoorPZoStart
import Derived.Test.YtpfbgenefjhcjaaGreatDoorPZoFrame
namespace Go.Proofs.YtpfbgenefjhcjaaGreatDoor
set_option linter.unusedVariables false
set_option linter.unusedSimpArgs false
open Go Go.RowKit
set_option maxRecDepth 100000
attribute [local go_sem] run_store_flt
theorem WideAt.form' {w : World} {base : Nat} {v : Value} {us : List Nat} (h : WideAt w base v us) : ∃ g cap : Nat, v = .slice (some ⟨g, 0, none⟩) us.length cap := by
  obtain ⟨g, cap, h1, h2, h3, h4, h5⟩ := h
  exact ⟨g, cap, h1⟩
theorem WideAt.row' {w : World} {base g cap : Nat} {us : List Nat} (h : WideAt w base (.slice (some ⟨g, 0, none⟩) us.length cap) us) : FR w (some ⟨g, 0, none⟩) us := by
  obtain ⟨A, c, e, _, _, _, hr⟩ := h.list
  injection e with e1 _ _
  rw [e1]
  exact hr
theorem WAcc.gr {base : Nat} {w : World} {v : Value} {vals : List Value} {gs : List (List Nat)} (h : WAcc base w v vals gs) : ∃ A cap, v = .slice A gs.length cap ∧ GR w A gs ∧ ∀ (k : Nat) (us : List Nat), gs[k]? = some us → ∃ (b o g ca : Nat), A = some ⟨b, o, none⟩ ∧ b < w.heap.size ∧ w.cell? ⟨b, o + k, none⟩ = some (.slice (some ⟨g, 0, none⟩) us.length ca) ∧ WideAt w base (.slice (some ⟨g, 0, none⟩) us.length ca) us := by
  obtain ⟨A, cap, e, hL⟩ := h.own.lat
  have key : ∀ (k : Nat) (us : List Nat), gs[k]? = some us → ∃ (b o g ca : Nat), A = some ⟨b, o, none⟩ ∧ b < w.heap.size ∧ w.cell? ⟨b, o + k, none⟩ = some (.slice (some ⟨g, 0, none⟩) us.length ca) ∧ WideAt w base (.slice (some ⟨g, 0, none⟩) us.length ca) us := fun k us hu => by
    obtain ⟨u, h1, h2⟩ := h.rows k us hu
    obtain ⟨g, ca, rfl⟩ := h2.form'
    obtain ⟨b, o, e, hb, hc⟩ := hL.row k _ h1
    exact ⟨b, o, g, ca, e, hb, hc, h2⟩
  refine ⟨A, cap, by rw [← h.len]; exact e, fun k us hu => ?_, key⟩
  obtain ⟨b, o, g, ca, e, hb, hc, hw⟩ := key k us hu
  obtain ⟨A', c', e', l1, l2, l3, l4⟩ := hw.list
  injection e' with e1 _ e3
  subst e1 e3
  exact ⟨b, o, e, hb, _, _, hc, l1, l2, l4⟩
set_option maxHeartbeats 8000000 in
theorem news_any (w : World) (Ac : Option Addr) (cc : Nat) (c : List Nat) (hc : FIn w Ac cc c) (Ag : Option Addr) (cg : Nat) (gs : List (List Nat)) (hg : GIn w Ag cg gs) :
    Calls Tryz.prog 8 #[.slice Ac c.length cc, .slice Ag gs.length cg] w fun e w' => e = .returned (.bool true) ∧ Below w.heap.size w w' := by
  have hwd := wide_any w Ac c.length cc c hc.at_.row rfl hc.most hc.at_.nil hc.at_.len
  have hmG := hg.size
  unfold MAXG at hmG
  go_enter Tryz.func8, Tryz.ntmps8
  go_wp2_with fail
  refine hwd.mono ?_
  rintro e w1 ⟨v1, rfl, hv1, hb1⟩
  obtain ⟨ga, ca, rfl⟩ := hv1.form'
  clear hwd
  go_wp2_with fail
  go_loopw [6, 7, 8] (fun vb vu kk wr => ∃ (k : Nat) (vals uvals : List Value), k ≤ gs.length ∧ kk = .int .i64 (k : Nat) ∧ WAcc w.heap.size wr vb vals (gs.take k) ∧ GAcc cU 46 27 w.heap.size wr vu uvals (gs.take k) ∧ WideAt wr w.heap.size (.slice (some ⟨ga, 0, none⟩) c.length ca) c ∧ Below w.heap.size w wr) (fun _ _ kk _ => gs.length - (intOf kk).toNat)
  case atStart => exact ⟨0, [], [], Nat.zero_le _, rfl, WAcc.nil _ _, GAcc.nil _ _ _ _ _, hv1, hb1⟩
  case round =>
    obtain ⟨k, vals, uvals, hk', rfl, hW, hU, hA, hB⟩ := hrel
    clear hv1 hb1
    by_cases hlt : k < gs.length
    · have hlt' : (k : Int) < (gs.length : Int) := by omega
      obtain ⟨g', hg0⟩ := get_some gs k hlt
      obtain ⟨bg, og, rfl, hbg, Bk, capk, hcg0, hcap, hcm, hRg⟩ := hg.rows k g' hg0
      have hgs := (hg.each g' (List.mem_of_getElem? hg0)).1
      have hgl := (hg.each g' (List.mem_of_getElem? hg0)).2
      have hA' : Bk = none → capk = 0 := hg.room k g' hg0 bg og Bk g'.length capk rfl hcg0
      have HT := Lib.hid (take_more gs k g' hg0)
      have hcg := (hB.cell (p := ⟨bg, og + k, none⟩) hbg).trans hcg0
      have hvl : vals.length ≤ k := by rw [hW.len]; exact List.length_take_le _ _
      have hul : uvals.length ≤ k := by rw [hU.len]; exact List.length_take_le _ _
      have hwd := wide_any wr Bk g'.length capk g' (hRg.below (Nat.le_refl _) hB) rfl hgl hA' hcap
      clear hg0 hA'
      go_wp2_with fail
      refine hwd.mono ?_
      rintro e w4 ⟨v4, rfl, hv4, hb4⟩
      obtain ⟨g4, c4, rfl⟩ := hv4.form'
      have hv4l := (hv4.low hB.size).below (below_alloc w4 (.cells #[.slice (some ⟨g4, 0, none⟩) g'.length c4] 22))
      have hW4 := (hW.below hb4).below (below_alloc w4 (.cells #[.slice (some ⟨g4, 0, none⟩) g'.length c4] 22))
      have hU4 := (hU.below hb4).below (below_alloc w4 (.cells #[.slice (some ⟨g4, 0, none⟩) g'.length c4] 22))
      have hA4 := (hA.below hb4).below (below_alloc w4 (.cells #[.slice (some ⟨g4, 0, none⟩) g'.length c4] 22))
      have hB4 := hB.trans (hb4.mono hB.size)
      replace hB4 := hB4.trans ((below_alloc w4 (.cells #[.slice (some ⟨g4, 0, none⟩) g'.length c4] 22)).mono hB4.size)
      clear hwd hW hU hA hB hb4 hv4 hcg
      go_upto_region 8 with (at_builtin; refine wpList_app1 cV 24 (.slice none 0 0) 24 22 Tryz.underlying24 infoLF rfl rfl (.tmp 19) (.tmp 25) rfl w.heap.size _ vals (.slice (some ⟨g4, 0, none⟩) g'.length c4) (.slice (some ⟨g4, 0, none⟩) g'.length c4) w4.heap.size rfl rfl hW4.own rfl rfl (cell_new0 w4 _ 22) (by omega) (by omega) hB4.size ?_; intro v5 w5 ho5 hg5 _; have hty := (fun g e => hW4.own.typed g e); have hW5 := hW4.add hv4l ho5 hg5; have hU5 := hU4.farR hg5 hty (by decide) (by decide); have hA5 := hA4.far hg5 hty (by decide); have hB5 := hB4.trans ((below_ownG hW4.own hg5 hB4.size).mono (Nat.le_refl _)); obtain ⟨A5, c5, hv5, _⟩ := ho5.lat; rw [List.length_append, List.length_singleton] at hv5; subst hv5; clear ho5 hg5 hty)
      have hcg := (hB5.cell (p := ⟨bg, og + k, none⟩) hbg).trans hcg0
      have hbt := Bits_t w5 Bk g'.length capk g' (hRg.below (Nat.le_refl _) hB5) rfl hgl
      clear hW4 hU4 hA4 hB4 hv4l
      go_wp2_with fail
      refine hbt.mono ?_
      rintro e w6 ⟨A6, c6, rfl, hT6, hb6⟩
      have hT7 := hT6.below (below_alloc w6 (.cells #[.slice A6 g'.length c6] 27))
      have hW7 := (hW5.below hb6).below (below_alloc w6 (.cells #[.slice A6 g'.length c6] 27))
      have hU7 := (hU5.below hb6).below (below_alloc w6 (.cells #[.slice A6 g'.length c6] 27))
      have hA7 := (hA5.below hb6).below (below_alloc w6 (.cells #[.slice A6 g'.length c6] 27))
      have hB7 := hB5.trans (hb6.mono hB5.size)
      replace hB7 := hB7.trans ((below_alloc w6 (.cells #[.slice A6 g'.length c6] 27)).mono hB7.size)
      clear hbt hW5 hU5 hA5 hB5 hb6 hT6 hcg
      go_wp2_with (at_builtin; refine wpList_app1 cV 24 (.slice none 0 0) 28 27 Tryz.underlying28 infoLU rfl rfl (.tmp 27) (.tmp 33) rfl w.heap.size _ uvals (.slice A6 g'.length c6) (.slice A6 g'.length c6) w6.heap.size rfl rfl hU7.own rfl rfl (cell_new0 w6 _ 27) (by omega) (by omega) hB7.size ?_; intro v8 w8 ho8 hg8 _; have hty := (fun g e => hU7.own.typed g e); have hU8 := hU7.add hT7 ho8 hg8 (by decide); have hW8 := hW7.far hg8 hty (by decide) (by decide); have hA8 := hA7.far hg8 hty (by decide); have hB8 := hB7.trans ((below_ownG hU7.own hg8 hB7.size).mono (Nat.le_refl _)); obtain ⟨A8, c8, hv8, _⟩ := ho8.lat; rw [List.length_append, List.length_singleton] at hv8; subst hv8; clear ho8 hg8 hty)
      go_roundw
      case rel => exact ⟨k + 1, _, _, by omega, by go_num, (by rw [HT.out]; exact hW8), (by rw [HT.out]; exact hU8), hA8, hB8⟩
      case measure => simp [intOf]; omega
    · obtain rfl : k = gs.length := by omega
      have hlt' : decide ((gs.length : Int) < (gs.length : Nat)) = false := by simp
      rw [List.take_length] at hW hU
      obtain ⟨Ab, cb, rfl, hGR, hrows⟩ := hW.gr
      obtain ⟨Au, cu, rfl, _, _, _, hGU⟩ := hU.row
      have hne := New_any wr (some ⟨ga, 0, none⟩) Ab ca cb c gs c.length gs.length hA.row' hc.small rfl hc.most hGR rfl hg.size hg.each
      have hyk := newD_ok hc.small hc.most hg.each hg.size
      have hn10 := fun W1 (hb : Below wr.heap.size wr W1) (Aq : Option Addr) (cq : Nat) (hq : UR W1 Aq c) => New10_any W1 Aq Au cq cu c gs c.length gs.length hq hc.small rfl hc.most (hGU.below hb) rfl hg.size hg.each
      generalize newD c gs = y at hne hn10 hyk
      clear hlt hk'
      go_wp2_with fail
      refine hne.mono ?_
      rintro e w3 ⟨v3, rfl, hv3, hb3⟩
      obtain ⟨A3, B3, C3, D3, kA3, kB3, kC3, kD3, rfl, hy⟩ := hv3.is
      unfold zval
      have hbl := below_alloc w3 (.cells #[.int .i64 y.n, .slice A3 y.c.length kA3, .slice B3 y.ids.length kB3, .slice C3 y.g.length kC3, .slice D3 y.r.length kD3, .bool y.bad] 26)
      have gy := ZB.new w3 (.int .i64 y.n) (.slice A3 y.c.length kA3) (.slice B3 y.ids.length kB3) (.slice C3 y.g.length kC3) (.slice D3 y.r.length kD3) (.bool y.bad)
      replace hy := hy.below hbl
      have hX := hb3.trans (hbl.mono hb3.size)
      clear hne hv3 hb3 hbl
      go_upto_region 10 with fail
      generalize w3.alloc (.cells #[.int .i64 y.n, .slice A3 y.c.length kA3, .slice B3 y.ids.length kB3, .slice C3 y.g.length kC3, .slice D3 y.r.length kD3, .bool y.bad] 26) = W5 at *
      generalize w3.heap.size = b9 at *
      clear w3
      have hB5 := hB.trans (hX.mono hB.size)
      have hA5 := hA.below hX
      go_cut [58] from 38 to 57 (fun q wx => q = .bool false ∧ Below W5.heap.size W5 wx)
      case first =>
        have hd := (Below.refl W5.heap.size W5).drew
        have QB := Bits_t W5.drew Ac c.length cc c (hc.at_.row.below (Nat.le_refl _) (hB5.trans (hd.mono hB5.size))) rfl hc.most
        have QN := fun W1 (hb : Below W5.heap.size W5 W1) => hn10 W1 (hX.trans (hb.mono hX.size))
        have QS := fun W1 (hb : Below W5.heap.size W5 W1) A6 B6 C6 D6 kA6 kB6 kC6 kD6 h6 => Same10_yes W1 A3 B3 C3 D3 A6 B6 C6 D6 kA3 kB3 kC3 kD3 kA6 kB6 kC6 kD6 y (hy.below hb) h6 hyk
        unfold zval at QS
        have hdr := hc.at_.row
        clear hn10
        have hS : ∀ W', Below W5.heap.size W5 W' → (fun w' => w'.cell? ⟨b9, 0, none⟩ = some (.int .i64 y.n) ∧ w'.cell? ⟨b9, 1, none⟩ = some (.slice A3 y.c.length kA3) ∧ w'.cell? ⟨b9, 2, none⟩ = some (.slice B3 y.ids.length kB3) ∧ w'.cell? ⟨b9, 3, none⟩ = some (.slice C3 y.g.length kC3) ∧ w'.cell? ⟨b9, 4, none⟩ = some (.slice D3 y.r.length kD3) ∧ w'.cell? ⟨b9, 5, none⟩ = some (.bool y.bad)) W' := fun W' hb => cells6 (gy.below hb)
        refine late_begin (fun w' => w'.cell? ⟨b9, 0, none⟩ = some (.int .i64 y.n) ∧ w'.cell? ⟨b9, 1, none⟩ = some (.slice A3 y.c.length kA3) ∧ w'.cell? ⟨b9, 2, none⟩ = some (.slice B3 y.ids.length kB3) ∧ w'.cell? ⟨b9, 3, none⟩ = some (.slice C3 y.g.length kC3) ∧ w'.cell? ⟨b9, 4, none⟩ = some (.slice D3 y.r.length kD3) ∧ w'.cell? ⟨b9, 5, none⟩ = some (.bool y.bad)) [] (by kernel_rfl) ?_
        refine late_take (i := 0) (v := ?_) (some 38) rfl rfl (by kernel_rfl) (by kernel_rfl) (by kernel_rfl) (by kernel_rfl) (fun _ _ _ h => h) (by kernel_rfl) (hS _ hd) ?_ ?_
        rotate_left
        · (intro w hSw; (try dsimp only at hSw); go_simp; try rfl)
        try simp only [Act.put, List.setIfInBounds_toArray, List.set_cons_zero, List.set_cons_succ]
        refine late_take (i := 1) (v := ?_) (some 39) rfl rfl (by kernel_rfl) (by kernel_rfl) (by kernel_rfl) (by kernel_rfl) (fun _ _ _ h => h) (by kernel_rfl) (hS _ hd) ?_ ?_
        rotate_left
        · (intro w hSw; (try dsimp only at hSw); go_simp; try rfl)
        try simp only [Act.put, List.setIfInBounds_toArray, List.set_cons_zero, List.set_cons_succ]
        refine late_take (i := 3) (v := ?_) (some 41) rfl rfl (by kernel_rfl) (by kernel_rfl) (by kernel_rfl) (by kernel_rfl) (fun _ _ _ h => h) (by kernel_rfl) (hS _ hd) ?_ ?_
        rotate_left
        · (intro w hSw; (try dsimp only at hSw); go_simp; try rfl)
        try simp only [Act.put, List.setIfInBounds_toArray, List.set_cons_zero, List.set_cons_succ]
        refine late_one (i := 2) rfl (by kernel_rfl) ?_
        intro K hK
        go_simp
        refine QB.mono ?_
        rintro e w6 ⟨A6, c6, rfl, hL6, hb6⟩
        have hg6 := hd.trans (hb6.mono hd.size)
        try show K _ _
        refine hK.out _ _ (Or.inr (hS _ hg6)) ?_
        clear hK K
        try simp only [Act.put, List.setIfInBounds_toArray, List.set_cons_zero, List.set_cons_succ]
        refine late_one (i := 4) rfl (by kernel_rfl) ?_
        intro K hK
        go_simp
        refine (QN _ hg6 A6 c6 hL6.at_.row).mono ?_
        rintro e w7 ⟨v7, rfl, ⟨A7, B7, C7, D7, kA7, kB7, kC7, kD7, rfl, hc7⟩, hb7⟩
        unfold zval
        have hg7 := hg6.trans (hb7.mono hg6.size)
        try show K _ _
        refine hK.out _ _ (Or.inr (hS _ hg7)) ?_
        clear hK K
        try simp only [Act.put, List.setIfInBounds_toArray, List.set_cons_zero, List.set_cons_succ]
        refine late_one (i := 5) rfl (by kernel_rfl) ?_
        intro K hK
        go_simp
        refine (QS _ hg7 A7 B7 C7 D7 kA7 kB7 kC7 kD7 hc7).mono ?_
        rintro e w8 ⟨rfl, hb8⟩
        have hg8 := hg7.trans (hb8.mono hg7.size)
        have hvh := hA5.below hg8
        have hBh := hB5.trans (hg8.mono hB5.size)
        try show K _ _
        refine hK.out _ _ (Or.inr (hS _ hg8)) ?_
        clear hK K
        try simp only [Act.put, List.setIfInBounds_toArray, List.set_cons_zero, List.set_cons_succ]
        refine late_take (i := 6) (v := ?_) (some 44) rfl rfl (by kernel_rfl) (by kernel_rfl) (by kernel_rfl) (by kernel_rfl) (fun _ _ _ h => h) (by kernel_rfl) (hS _ hg8) ?_ ?_
        rotate_left
        · (intro w hSw; (try dsimp only at hSw); go_simp; try rfl)
        try simp only [Act.put, List.setIfInBounds_toArray, List.set_cons_zero, List.set_cons_succ]
        refine late_take (i := 7) (v := ?_) (some 45) rfl rfl (by kernel_rfl) (by kernel_rfl) (by kernel_rfl) (by kernel_rfl) (fun _ _ _ h => h) (by kernel_rfl) (hS _ hg8) ?_ ?_
        rotate_left
        · (intro w hSw; (try dsimp only at hSw); go_simp; try rfl)
        try simp only [Act.put, List.setIfInBounds_toArray, List.set_cons_zero, List.set_cons_succ]
        refine late_take (i := 8) (v := ?_) (some 46) rfl rfl (by kernel_rfl) (by kernel_rfl) (by kernel_rfl) (by kernel_rfl) (fun _ _ _ h => h) (by kernel_rfl) (hS _ hg8) ?_ ?_
        rotate_left
        · (intro w hSw; (try dsimp only at hSw); go_simp; try rfl)
        try simp only [Act.put, List.setIfInBounds_toArray, List.set_cons_zero, List.set_cons_succ]
        refine late_one (i := 9) rfl (by kernel_rfl) ?_
        intro K hK
        go_simp
        refine (kept_any _ _ _ c c.length hvh rfl hc.most).mono ?_
        rintro e wk ⟨rfl, rfl⟩
        try show K _ _
        refine hK.out _ _ (Or.inr (hS _ hg8)) ?_
        clear hK K
        try simp only [Act.put, List.setIfInBounds_toArray, List.set_cons_zero, List.set_cons_succ]
        refine late_take (i := 10) (v := ?_) (some 48) rfl rfl (by kernel_rfl) (by kernel_rfl) (by kernel_rfl) (by kernel_rfl) (fun _ _ _ h => h) (by kernel_rfl) (hS _ hg8) ?_ ?_
        rotate_left
        · (intro w hSw; (try dsimp only at hSw); go_simp; try rfl)
        try simp only [Act.put, List.setIfInBounds_toArray, List.set_cons_zero, List.set_cons_succ]
        refine late_take (i := 11) (v := ?_) (some 49) rfl rfl (by kernel_rfl) (by kernel_rfl) (by kernel_rfl) (by kernel_rfl) (fun _ _ _ h => h) (by kernel_rfl) (hS _ hg8) ?_ ?_
        rotate_left
        · (intro w hSw; (try dsimp only at hSw); go_simp; try rfl)
        try simp only [Act.put, List.setIfInBounds_toArray, List.set_cons_zero, List.set_cons_succ]
        refine late_take (i := 12) (v := ?_) (some 50) rfl rfl (by kernel_rfl) (by kernel_rfl) (by kernel_rfl) (by kernel_rfl) (fun _ _ _ h => h) (by kernel_rfl) (hS _ hg8) ?_ ?_
        rotate_left
        · (intro w hSw; (try dsimp only at hSw); go_simp; try rfl)
        try simp only [Act.put, List.setIfInBounds_toArray, List.set_cons_zero, List.set_cons_succ]
        refine late_take (i := 13) (v := ?_) (some 51) rfl rfl (by kernel_rfl) (by kernel_rfl) (by kernel_rfl) (by kernel_rfl) (fun _ _ _ h => h) (by kernel_rfl) (hS _ hg8) ?_ ?_
        rotate_left
        · (intro w hSw; (try dsimp only at hSw); go_simp; try rfl)
        try simp only [Act.put, List.setIfInBounds_toArray, List.set_cons_zero, List.set_cons_succ]
        refine late_take (i := 16) (v := ?_) (some 54) rfl rfl (by kernel_rfl) (by kernel_rfl) (by kernel_rfl) (by kernel_rfl) (fun _ _ _ h => h) (by kernel_rfl) (hS _ hg8) ?_ ?_
        rotate_left
        · (intro w hSw; (try dsimp only at hSw); go_simp; try rfl)
        try simp only [Act.put, List.setIfInBounds_toArray, List.set_cons_zero, List.set_cons_succ]
        refine late_one (i := 14) rfl (by kernel_rfl) ?_
        intro K hK
        go_simp
        refine (text_any _ (some ⟨ga, 0, none⟩) ca c hvh.row' hc.small hc.most).mono ?_
        rintro e wt ⟨Bt, ct, rfl, hot, hbt⟩
        have hBt := hBh.trans (hbt.mono hBh.size)
        have hgt := hg8.trans (hbt.mono hg8.size)
        try show K _ _
        refine hK.out _ _ (Or.inr (hS _ hgt)) ?_
        clear hK K
        try simp only [Act.put, List.setIfInBounds_toArray, List.set_cons_zero, List.set_cons_succ]
        refine late_both (i := 15) (j := 17) rfl rfl (by kernel_rfl) ?_ ?_
        · intro K hK
          have hcv := text_str hot _ (Below.refl _ _)
          go_simp
          try show K _ _
          refine hK.out _ _ (Or.inr (hS _ hgt)) ?_
          clear hK K
          try simp only [Act.put, List.setIfInBounds_toArray, List.set_cons_zero, List.set_cons_succ]
          refine late_one (i := 17) rfl (by kernel_rfl) ?_
          intro K hK
          go_simp
          refine (text_any _ Ac cc c (hdr.below (Nat.le_refl _) hBt) hc.small hc.most).mono ?_
          rintro e wu ⟨Bu, cu, rfl, hou, hbu⟩
          have hgu := hgt.trans (hbu.mono hgt.size)
          try show K _ _
          refine hK.out _ _ (Or.inr (hS _ hgu)) ?_
          clear hK K
          try simp only [Act.put, List.setIfInBounds_toArray, List.set_cons_zero, List.set_cons_succ]
          refine late_one (i := 18) rfl (by kernel_rfl) ?_
          intro K hK
          have hcv := text_str hou _ (Below.refl _ _)
          go_simp
          try show K _ _
          refine hK.out _ _ (Or.inr (hS _ hgu)) ?_
          clear hK K
          try simp only [Act.put, List.setIfInBounds_toArray, List.set_cons_zero, List.set_cons_succ]
          refine late_take (i := 19) (v := ?_) (some 57) rfl rfl (by kernel_rfl) (by kernel_rfl) (by kernel_rfl) (by kernel_rfl) (fun _ _ _ h => h) (by kernel_rfl) (hS _ hgu) ?_ ?_
          rotate_left
          · (intro w hSw; (try dsimp only at hSw); go_simp; try rfl)
          try simp only [Act.put, List.setIfInBounds_toArray, List.set_cons_zero, List.set_cons_succ]
          refine late_take (i := 20) (v := ?_) (some 58) rfl rfl (by kernel_rfl) (by kernel_rfl) (by kernel_rfl) (by kernel_rfl) (fun _ _ _ h => h) (by kernel_rfl) (hS _ hgu) ?_ ?_
          rotate_left
          · (intro w hSw; (try dsimp only at hSw); go_simp; try rfl)
          try simp only [Act.put, List.setIfInBounds_toArray, List.set_cons_zero, List.set_cons_succ]
          refine late_done (by kernel_rfl) ?_ _
          go_wp2_with fail
          go_meet
          exact ⟨rfl, hgu⟩
        · intro K hK
          go_simp
          refine (text_any _ Ac cc c (hdr.below (Nat.le_refl _) hBt) hc.small hc.most).mono ?_
          rintro e wu ⟨Bu, cu, rfl, hou, hbu⟩
          have hgu := hgt.trans (hbu.mono hgt.size)
          try show K _ _
          refine hK.out _ _ (Or.inr (hS _ hgu)) ?_
          clear hK K
          try simp only [Act.put, List.setIfInBounds_toArray, List.set_cons_zero, List.set_cons_succ]
          refine late_both (i := 15) (j := 18) rfl rfl (by kernel_rfl) ?_ ?_
          · intro K hK
            have hcv := text_str hot _ (hbu)
            go_simp
            try show K _ _
            refine hK.out _ _ (Or.inr (hS _ hgu)) ?_
            clear hK K
            try simp only [Act.put, List.setIfInBounds_toArray, List.set_cons_zero, List.set_cons_succ]
            refine late_one (i := 18) rfl (by kernel_rfl) ?_
            intro K hK
            have hcv := text_str hou _ (Below.refl _ _)
            go_simp
            try show K _ _
            refine hK.out _ _ (Or.inr (hS _ hgu)) ?_
            clear hK K
            try simp only [Act.put, List.setIfInBounds_toArray, List.set_cons_zero, List.set_cons_succ]
            refine late_take (i := 19) (v := ?_) (some 57) rfl rfl (by kernel_rfl) (by kernel_rfl) (by kernel_rfl) (by kernel_rfl) (fun _ _ _ h => h) (by kernel_rfl) (hS _ hgu) ?_ ?_
            rotate_left
            · (intro w hSw; (try dsimp only at hSw); go_simp; try rfl)
            try simp only [Act.put, List.setIfInBounds_toArray, List.set_cons_zero, List.set_cons_succ]
            refine late_take (i := 20) (v := ?_) (some 58) rfl rfl (by kernel_rfl) (by kernel_rfl) (by kernel_rfl) (by kernel_rfl) (fun _ _ _ h => h) (by kernel_rfl) (hS _ hgu) ?_ ?_
            rotate_left
            · (intro w hSw; (try dsimp only at hSw); go_simp; try rfl)
            try simp only [Act.put, List.setIfInBounds_toArray, List.set_cons_zero, List.set_cons_succ]
            refine late_done (by kernel_rfl) ?_ _
            go_wp2_with fail
            go_meet
            exact ⟨rfl, hgu⟩
          · intro K hK
            have hcv := text_str hou _ (Below.refl _ _)
            go_simp
            try show K _ _
            refine hK.out _ _ (Or.inr (hS _ hgu)) ?_
            clear hK K
            try simp only [Act.put, List.setIfInBounds_toArray, List.set_cons_zero, List.set_cons_succ]
            refine late_one (i := 15) rfl (by kernel_rfl) ?_
            intro K hK
            have hcv := text_str hot _ (hbu)
            go_simp
            try show K _ _
            refine hK.out _ _ (Or.inr (hS _ hgu)) ?_
            clear hK K
            try simp only [Act.put, List.setIfInBounds_toArray, List.set_cons_zero, List.set_cons_succ]
            refine late_take (i := 19) (v := ?_) (some 57) rfl rfl (by kernel_rfl) (by kernel_rfl) (by kernel_rfl) (by kernel_rfl) (fun _ _ _ h => h) (by kernel_rfl) (hS _ hgu) ?_ ?_
            rotate_left
            · (intro w hSw; (try dsimp only at hSw); go_simp; try rfl)
            try simp only [Act.put, List.setIfInBounds_toArray, List.set_cons_zero, List.set_cons_succ]
            refine late_take (i := 20) (v := ?_) (some 58) rfl rfl (by kernel_rfl) (by kernel_rfl) (by kernel_rfl) (by kernel_rfl) (fun _ _ _ h => h) (by kernel_rfl) (hS _ hgu) ?_ ?_
            rotate_left
            · (intro w hSw; (try dsimp only at hSw); go_simp; try rfl)
            try simp only [Act.put, List.setIfInBounds_toArray, List.set_cons_zero, List.set_cons_succ]
            refine late_done (by kernel_rfl) ?_ _
            go_wp2_with fail
            go_meet
            exact ⟨rfl, hgu⟩
      case rest =>
        obtain ⟨rfl, hR⟩ := hcut
        clear hn10 gy hy hyk
        go_wp2_with fail
        go_loopw [10] (fun kk wr => ∃ k : Nat, k ≤ gs.length ∧ kk = .int .i64 (k : Nat) ∧ Below W5.heap.size W5 wr) (fun kk _ => gs.length - (intOf kk).toNat)
        case atStart => exact ⟨0, Nat.zero_le _, rfl, hR⟩
        case round =>
          clear hR
          obtain ⟨k, hk', rfl, hR⟩ := hrel
          have hXr := hX.trans (hR.mono hX.size)
          have hBr := hB5.trans (hR.mono hB5.size)
          by_cases hlt : k < gs.length
          · have hlt' : (k : Int) < (gs.length : Int) := by omega
            obtain ⟨g', hg0⟩ := get_some gs k hlt
            obtain ⟨bg, og, rfl, hbg, Bk, capk, hcg0, hcap, hcm, hRg⟩ := hg.rows k g' hg0
            have hgs := (hg.each g' (List.mem_of_getElem? hg0)).1
            have hgl := (hg.each g' (List.mem_of_getElem? hg0)).2
            obtain ⟨bb, ob, g9, c9, rfl, hbb, hcb0, hw9⟩ := hrows k g' hg0
            have hcg := (hBr.cell (p := ⟨bg, og + k, none⟩) hbg).trans hcg0
            have hcb := (hXr.cell (p := ⟨bb, ob + k, none⟩) hbb).trans hcb0
            have hv9 := hw9.below hXr
            clear hg0
            go_upto_region 15 with fail
            go_cut [85] from 65 to 84 (fun q wx => q = .bool false ∧ Below W5.heap.size W5 wx)
            case first =>
              have hd := (Below.refl wr.heap.size wr).drew
              have hbgr := Nat.lt_of_lt_of_le hbg hBr.size
              have hdr := hRg
              have hvd := hv9.below hd
              have hBd := hBr.trans (hd.mono hBr.size)
              have hRd := hR.trans (hd.mono hR.size)
              have hS : ∀ W', Below wr.heap.size wr W' → (fun w' => w'.cell? ⟨bb, ob + k, none⟩ = some (.slice (some ⟨g9, 0, none⟩) g'.length c9) ∧ w'.cell? ⟨bg, og + k, none⟩ = some (.slice Bk g'.length capk)) W' := fun W' hb => ⟨((hXr.trans (hb.mono hXr.size)).cell (p := ⟨bb, ob + k, none⟩) hbb).trans hcb0, ((hBr.trans (hb.mono hBr.size)).cell (p := ⟨bg, og + k, none⟩) hbg).trans hcg0⟩
              refine late_begin (fun w' => w'.cell? ⟨bb, ob + k, none⟩ = some (.slice (some ⟨g9, 0, none⟩) g'.length c9) ∧ w'.cell? ⟨bg, og + k, none⟩ = some (.slice Bk g'.length capk)) [] (by kernel_rfl) ?_
              refine late_take (i := 0) (v := ?_) (some 65) rfl rfl (by kernel_rfl) (by kernel_rfl) (by kernel_rfl) (by kernel_rfl) (fun _ _ _ h => h) (by kernel_rfl) (hS _ hd) ?_ ?_
              rotate_left
              · (intro w hSw; (try dsimp only at hSw); go_simp; try rfl)
              try simp only [Act.put, List.setIfInBounds_toArray, List.set_cons_zero, List.set_cons_succ]
              refine late_take (i := 1) (v := ?_) (some 66) rfl rfl (by kernel_rfl) (by kernel_rfl) (by kernel_rfl) (by kernel_rfl) (fun _ _ _ h => h) (by kernel_rfl) (hS _ hd) ?_ ?_
              rotate_left
              · (intro w hSw; (try dsimp only at hSw); go_simp; try rfl)
              try simp only [Act.put, List.setIfInBounds_toArray, List.set_cons_zero, List.set_cons_succ]
              refine late_take (i := 2) (v := ?_) (some 67) rfl rfl (by kernel_rfl) (by kernel_rfl) (by kernel_rfl) (by kernel_rfl) (fun _ _ _ h => h) (by kernel_rfl) (hS _ hd) ?_ ?_
              rotate_left
              · (intro w hSw; (try dsimp only at hSw); go_simp; try rfl)
              try simp only [Act.put, List.setIfInBounds_toArray, List.set_cons_zero, List.set_cons_succ]
              refine late_take (i := 3) (v := ?_) (some 68) rfl rfl (by kernel_rfl) (by kernel_rfl) (by kernel_rfl) (by kernel_rfl) (fun _ _ _ h => h) (by kernel_rfl) (hS _ hd) ?_ ?_
              rotate_left
              · (intro w hSw; (try dsimp only at hSw); go_simp; try rfl)
              try simp only [Act.put, List.setIfInBounds_toArray, List.set_cons_zero, List.set_cons_succ]
              refine late_one (i := 4) rfl (by kernel_rfl) ?_
              intro K hK
              go_simp
              refine (kept_any _ _ _ g' g'.length hvd rfl hgl).mono ?_
              rintro e wk ⟨rfl, rfl⟩
              try show K _ _
              refine hK.out _ _ (Or.inr (hS _ hd)) ?_
              clear hK K
              try simp only [Act.put, List.setIfInBounds_toArray, List.set_cons_zero, List.set_cons_succ]
              refine late_take (i := 5) (v := ?_) (some 70) rfl rfl (by kernel_rfl) (by kernel_rfl) (by kernel_rfl) (by kernel_rfl) (fun _ _ _ h => h) (by kernel_rfl) (hS _ hd) ?_ ?_
              rotate_left
              · (intro w hSw; (try dsimp only at hSw); go_simp; try rfl)
              try simp only [Act.put, List.setIfInBounds_toArray, List.set_cons_zero, List.set_cons_succ]
              refine late_take (i := 6) (v := ?_) (some 71) rfl rfl (by kernel_rfl) (by kernel_rfl) (by kernel_rfl) (by kernel_rfl) (fun _ _ _ h => h) (by kernel_rfl) (hS _ hd) ?_ ?_
              rotate_left
              · (intro w hSw; (try dsimp only at hSw); go_simp; try rfl)
              try simp only [Act.put, List.setIfInBounds_toArray, List.set_cons_zero, List.set_cons_succ]
              refine late_take (i := 7) (v := ?_) (some 72) rfl rfl (by kernel_rfl) (by kernel_rfl) (by kernel_rfl) (by kernel_rfl) (fun _ _ _ h => h) (by kernel_rfl) (hS _ hd) ?_ ?_
              rotate_left
              · (intro w hSw; (try dsimp only at hSw); go_simp; try rfl)
              try simp only [Act.put, List.setIfInBounds_toArray, List.set_cons_zero, List.set_cons_succ]
              refine late_take (i := 8) (v := ?_) (some 73) rfl rfl (by kernel_rfl) (by kernel_rfl) (by kernel_rfl) (by kernel_rfl) (fun _ _ _ h => h) (by kernel_rfl) (hS _ hd) ?_ ?_
              rotate_left
              · (intro w hSw; (try dsimp only at hSw); go_simp; try rfl)
              try simp only [Act.put, List.setIfInBounds_toArray, List.set_cons_zero, List.set_cons_succ]
              refine late_take (i := 9) (v := ?_) (some 74) rfl rfl (by kernel_rfl) (by kernel_rfl) (by kernel_rfl) (by kernel_rfl) (fun _ _ _ h => h) (by kernel_rfl) (hS _ hd) ?_ ?_
              rotate_left
              · (intro w hSw; (try dsimp only at hSw); go_simp; try rfl)
              try simp only [Act.put, List.setIfInBounds_toArray, List.set_cons_zero, List.set_cons_succ]
              refine late_take (i := 10) (v := ?_) (some 75) rfl rfl (by kernel_rfl) (by kernel_rfl) (by kernel_rfl) (by kernel_rfl) (fun _ _ _ h => h) (by kernel_rfl) (hS _ hd) ?_ ?_
              rotate_left
              · (intro w hSw; (try dsimp only at hSw); go_simp; try rfl)
              try simp only [Act.put, List.setIfInBounds_toArray, List.set_cons_zero, List.set_cons_succ]
              refine late_take (i := 13) (v := ?_) (some 78) rfl rfl (by kernel_rfl) (by kernel_rfl) (by kernel_rfl) (by kernel_rfl) (fun _ _ _ h => h) (by kernel_rfl) (hS _ hd) ?_ ?_
              rotate_left
              · (intro w hSw; (try dsimp only at hSw); go_simp; try rfl)
              try simp only [Act.put, List.setIfInBounds_toArray, List.set_cons_zero, List.set_cons_succ]
              refine late_take (i := 14) (v := ?_) (some 79) rfl rfl (by kernel_rfl) (by kernel_rfl) (by kernel_rfl) (by kernel_rfl) (fun _ _ _ h => h) (by kernel_rfl) (hS _ hd) ?_ ?_
              rotate_left
              · (intro w hSw; (try dsimp only at hSw); go_simp; try rfl)
              try simp only [Act.put, List.setIfInBounds_toArray, List.set_cons_zero, List.set_cons_succ]
              refine late_take (i := 15) (v := ?_) (some 80) rfl rfl (by kernel_rfl) (by kernel_rfl) (by kernel_rfl) (by kernel_rfl) (fun _ _ _ h => h) (by kernel_rfl) (hS _ hd) ?_ ?_
              rotate_left
              · (intro w hSw; (try dsimp only at hSw); go_simp; try rfl)
              try simp only [Act.put, List.setIfInBounds_toArray, List.set_cons_zero, List.set_cons_succ]
              refine late_take (i := 16) (v := ?_) (some 81) rfl rfl (by kernel_rfl) (by kernel_rfl) (by kernel_rfl) (by kernel_rfl) (fun _ _ _ h => h) (by kernel_rfl) (hS _ hd) ?_ ?_
              rotate_left
              · (intro w hSw; (try dsimp only at hSw); go_simp; try rfl)
              try simp only [Act.put, List.setIfInBounds_toArray, List.set_cons_zero, List.set_cons_succ]
              refine late_one (i := 11) rfl (by kernel_rfl) ?_
              intro K hK
              go_simp
              refine (text_any _ (some ⟨g9, 0, none⟩) c9 g' hvd.row' hgs hgl).mono ?_
              rintro e wt ⟨Bt, ct, rfl, hot, hbt⟩
              have hdt := hd.trans (hbt.mono hd.size)
              have hBt := hBd.trans (hbt.mono hBd.size)
              have hRt := hRd.trans (hbt.mono hRd.size)
              try show K _ _
              refine hK.out _ _ (Or.inr (hS _ hdt)) ?_
              clear hK K
              try simp only [Act.put, List.setIfInBounds_toArray, List.set_cons_zero, List.set_cons_succ]
              refine late_both (i := 12) (j := 17) rfl rfl (by kernel_rfl) ?_ ?_
              · intro K hK
                have hcv := text_str hot _ (Below.refl _ _)
                go_simp
                try show K _ _
                refine hK.out _ _ (Or.inr (hS _ hdt)) ?_
                clear hK K
                try simp only [Act.put, List.setIfInBounds_toArray, List.set_cons_zero, List.set_cons_succ]
                refine late_one (i := 17) rfl (by kernel_rfl) ?_
                intro K hK
                go_simp
                refine (text_any _ Bk capk g' (hdr.below (Nat.le_refl _) hBt) hgs hgl).mono ?_
                rintro e wu ⟨Bu, cu, rfl, hou, hbu⟩
                have hdu := hdt.trans (hbu.mono hdt.size)
                have hRu := hRt.trans (hbu.mono hRt.size)
                try show K _ _
                refine hK.out _ _ (Or.inr (hS _ hdu)) ?_
                clear hK K
                try simp only [Act.put, List.setIfInBounds_toArray, List.set_cons_zero, List.set_cons_succ]
                refine late_one (i := 18) rfl (by kernel_rfl) ?_
                intro K hK
                have hcv := text_str hou _ (Below.refl _ _)
                go_simp
                try show K _ _
                refine hK.out _ _ (Or.inr (hS _ hdu)) ?_
                clear hK K
                try simp only [Act.put, List.setIfInBounds_toArray, List.set_cons_zero, List.set_cons_succ]
                refine late_take (i := 19) (v := ?_) (some 84) rfl rfl (by kernel_rfl) (by kernel_rfl) (by kernel_rfl) (by kernel_rfl) (fun _ _ _ h => h) (by kernel_rfl) (hS _ hdu) ?_ ?_
                rotate_left
                · (intro w hSw; (try dsimp only at hSw); go_simp; try rfl)
                try simp only [Act.put, List.setIfInBounds_toArray, List.set_cons_zero, List.set_cons_succ]
                refine late_take (i := 20) (v := ?_) (some 85) rfl rfl (by kernel_rfl) (by kernel_rfl) (by kernel_rfl) (by kernel_rfl) (fun _ _ _ h => h) (by kernel_rfl) (hS _ hdu) ?_ ?_
                rotate_left
                · (intro w hSw; (try dsimp only at hSw); go_simp; try rfl)
                try simp only [Act.put, List.setIfInBounds_toArray, List.set_cons_zero, List.set_cons_succ]
                refine late_done (by kernel_rfl) ?_ _
                go_wp2_with fail
                go_meet
                exact ⟨rfl, hRu⟩
              · intro K hK
                go_simp
                refine (text_any _ Bk capk g' (hdr.below (Nat.le_refl _) hBt) hgs hgl).mono ?_
                rintro e wu ⟨Bu, cu, rfl, hou, hbu⟩
                have hdu := hdt.trans (hbu.mono hdt.size)
                have hRu := hRt.trans (hbu.mono hRt.size)
                try show K _ _
                refine hK.out _ _ (Or.inr (hS _ hdu)) ?_
                clear hK K
                try simp only [Act.put, List.setIfInBounds_toArray, List.set_cons_zero, List.set_cons_succ]
                refine late_both (i := 12) (j := 18) rfl rfl (by kernel_rfl) ?_ ?_
                · intro K hK
                  have hcv := text_str hot _ (hbu)
                  go_simp
                  try show K _ _
                  refine hK.out _ _ (Or.inr (hS _ hdu)) ?_
                  clear hK K
                  try simp only [Act.put, List.setIfInBounds_toArray, List.set_cons_zero, List.set_cons_succ]
                  refine late_one (i := 18) rfl (by kernel_rfl) ?_
                  intro K hK
                  have hcv := text_str hou _ (Below.refl _ _)
                  go_simp
                  try show K _ _
                  refine hK.out _ _ (Or.inr (hS _ hdu)) ?_
                  clear hK K
                  try simp only [Act.put, List.setIfInBounds_toArray, List.set_cons_zero, List.set_cons_succ]
                  refine late_take (i := 19) (v := ?_) (some 84) rfl rfl (by kernel_rfl) (by kernel_rfl) (by kernel_rfl) (by kernel_rfl) (fun _ _ _ h => h) (by kernel_rfl) (hS _ hdu) ?_ ?_
                  rotate_left
                  · (intro w hSw; (try dsimp only at hSw); go_simp; try rfl)
                  try simp only [Act.put, List.setIfInBounds_toArray, List.set_cons_zero, List.set_cons_succ]
                  refine late_take (i := 20) (v := ?_) (some 85) rfl rfl (by kernel_rfl) (by kernel_rfl) (by kernel_rfl) (by kernel_rfl) (fun _ _ _ h => h) (by kernel_rfl) (hS _ hdu) ?_ ?_
                  rotate_left
                  · (intro w hSw; (try dsimp only at hSw); go_simp; try rfl)
                  try simp only [Act.put, List.setIfInBounds_toArray, List.set_cons_zero, List.set_cons_succ]
                  refine late_done (by kernel_rfl) ?_ _
                  go_wp2_with fail
                  go_meet
                  exact ⟨rfl, hRu⟩
                · intro K hK
                  have hcv := text_str hou _ (Below.refl _ _)
                  go_simp
                  try show K _ _
                  refine hK.out _ _ (Or.inr (hS _ hdu)) ?_
                  clear hK K
                  try simp only [Act.put, List.setIfInBounds_toArray, List.set_cons_zero, List.set_cons_succ]
                  refine late_one (i := 12) rfl (by kernel_rfl) ?_
                  intro K hK
                  have hcv := text_str hot _ (hbu)
                  go_simp
                  try show K _ _
                  refine hK.out _ _ (Or.inr (hS _ hdu)) ?_
                  clear hK K
                  try simp only [Act.put, List.setIfInBounds_toArray, List.set_cons_zero, List.set_cons_succ]
                  refine late_take (i := 19) (v := ?_) (some 84) rfl rfl (by kernel_rfl) (by kernel_rfl) (by kernel_rfl) (by kernel_rfl) (fun _ _ _ h => h) (by kernel_rfl) (hS _ hdu) ?_ ?_
                  rotate_left
                  · (intro w hSw; (try dsimp only at hSw); go_simp; try rfl)
                  try simp only [Act.put, List.setIfInBounds_toArray, List.set_cons_zero, List.set_cons_succ]
                  refine late_take (i := 20) (v := ?_) (some 85) rfl rfl (by kernel_rfl) (by kernel_rfl) (by kernel_rfl) (by kernel_rfl) (fun _ _ _ h => h) (by kernel_rfl) (hS _ hdu) ?_ ?_
                  rotate_left
                  · (intro w hSw; (try dsimp only at hSw); go_simp; try rfl)
                  try simp only [Act.put, List.setIfInBounds_toArray, List.set_cons_zero, List.set_cons_succ]
                  refine late_done (by kernel_rfl) ?_ _
                  go_wp2_with fail
                  go_meet
                  exact ⟨rfl, hRu⟩
            case rest =>
              obtain ⟨rfl, hR2⟩ := hcut
              go_wp2_with fail
              go_roundw
              case rel => exact ⟨k + 1, by omega, by go_num, hR2⟩
              case measure => simp [intOf]; omega
          · have hkm : k = gs.length := by omega
            have hlt' : decide ((k : Int) < (gs.length : Int)) = false := decide_eq_false (by omega)
            go_wp2_with fail
            refine (started_any _).mono ?_
            rintro e w9 ⟨rfl, hb⟩
            go_wp2_with fail
            go_ret
            exact ⟨rfl, hBr.trans (hb.mono hBr.size)⟩
end Go.Proofs.YtpfbgenefjhcjaaGreatDoor
