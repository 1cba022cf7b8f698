/- ambitref10.Laid. -/
import Derived.Test.YtpfbgenefjhcjaaGreatDoorZoSumB
namespace Go.Proofs.YtpfbgenefjhcjaaGreatDoor
set_option linter.unusedVariables false
set_option linter.unusedSimpArgs false
open Go Go.RowKit
attribute [local go_sem] Oper.semAt_some
set_option maxRecDepth 100000
set_option maxHeartbeats 32000000 in
theorem Laid10_any (w : World) (Ac Ai Ag Ar : Option Addr) (kc ki kg kr : Nat) (a b : ZD) (ha : Good a) (hb : Good b) (n : Nat) (U : List Int) (h1 : 1 ≤ n) (hn : n ≤ 256) (hUl : U.length ≤ 2147483650)
  (hc : NLt (-2212) 5000 w Ac kc (sumL a.c b.c n)) (hU : LAt cI w Ai ki U) (hg : NGR (-2212) 5000 w Ag (U.map fun i => sumL (colI a n i) (colI b n i) n)) (hr : NLt (-2212) 5000 w Ar kr (sumL a.r b.r n)) :
  Calls Tryz.prog 104 #[.slice Ac n kc, .slice Ai U.length ki, .slice Ag U.length kg, .slice Ar n kr] w fun e w' => TellsLaid w (plusZ a b n U) e w' := by
 have HUL := Lib.hid hUl
 obtain ⟨f0, f1, f2, f3⟩ := two_blocks w (.cells #[.int .i64 0, .slice none 0 0, .slice none 0 0, .slice none 0 0, .slice none 0 0, .bool false] 30) (.cells #[.int .i64 (n : Int), .slice none 0 0, .slice none 0 0, .slice none 0 0, .slice none 0 0, .bool false] 30)
 have k0 : UB _ w.heap.size _ _ _ _ _ _ := f0
 have k1 : UB _ (w.heap.size + 1) _ _ _ _ _ _ := f1
 obtain ⟨adr, oR, rfl⟩ : ∃ b o, Ar = some ⟨b, o, none⟩ := by
  obtain ⟨b, o, x, e, _⟩ := hr.row 0 _ (sumL_get a.r b.r (k := 0) (by omega))
  exact ⟨b, o, e⟩
 go_enter Tryz.func104, Tryz.ntmps104
 go_upto_region 3 with fail
 generalize (w.alloc (.cells #[.int .i64 0, .slice none 0 0, .slice none 0 0, .slice none 0 0, .slice none 0 0, .bool false] 30)).alloc (.cells #[.int .i64 (n : Int), .slice none 0 0, .slice none 0 0, .slice none 0 0, .slice none 0 0, .bool false] 30) = W1 at *
 obtain ⟨gb, hgb⟩ : ∃ g, w.heap.size + 1 = g := ⟨_, rfl⟩
 rw [hgb] at k1 f1 f2 ⊢
 have HF2 := Lib.hid f2
 clear f2
 have hba := below_alloc W1 (.cells #[] 70)
 have hb2 := f3.trans (hba.mono f3.size)
 obtain ⟨ns, hnl, hnn, hnc⟩ := nums_nvs (hr.below hb2)
 rw [sumL_len] at hnl
 have hE : OwnG NV.cells 70 3 (W1.alloc (.cells #[] 70)) W1.heap.size (.slice (some ⟨W1.heap.size, 0, none⟩) 0 0) ([] : List NV) := ⟨rfl, Or.inr ⟨_, 0, _, rfl, Nat.le_refl _, World.alloc_heap_new _ _, Nat.le_refl _, Nat.zero_le _, rfl, rfl⟩⟩
 have k0' := k0.below hba
 have k1' := k1.below hba
 have hNN := Lib.hid hnn
 have hnlN := Lib.hid hnl
 have hsz2 : W1.heap.size ≤ (W1.alloc (.cells #[] 70)).heap.size := hba.size
 clear hnn hnl
 go_wp2_with (at_builtin; refine wpList_append_g NV.cells 3 40 (.agg #[.bool false, .slice none 0 0, .int .i64 0]) 58 70 Tryz.underlying58 infoNum rfl (by decide) (fun _ => rfl) rfl (.tmp 31) (.tmp 32) rfl W1.heap.size _ [] ns rfl hE ⟨adr, oR, none⟩ n kr rfl hnlN.out (hnc _ rfl) (by unfold maxLen; simp; omega) (by simp; omega) hsz2 (fun y hy u hu => by simp [NV.cells] at hu; rcases hu with rfl | rfl | rfl <;> rfl) ?_; intro v3 W3 ho3 hg3 _; have HO3 := Lib.hid (And.intro ho3 hg3); clear ho3 hg3)
 obtain ⟨ho3, hg3⟩ := HO3.out
 clear HO3
 obtain ⟨gs, cs, rfl, hgs1, hcs, hsum⟩ := SumB.of_own (n := n) ho3 (by rw [List.nil_append]; exact hnlN.out) h1 (f := fun i => fz (a.r.getD i 0) + fz (b.r.getD i 0)) (fun j hj => by
  obtain ⟨x, hx, hx2⟩ := hNN.out j _ (sumL_get a.r b.r hj)
  exact ⟨x, by rw [List.nil_append]; exact hx, hx2.far hg3 hE.typed (by decide)⟩)
 have k0 : UB W3 w.heap.size _ _ _ _ _ _ := block_far k0' hg3 hE.typed (by decide)
 have k1 : UB W3 gb _ _ _ _ _ _ := block_far k1' hg3 hE.typed (by decide)
 have hB3 := hb2.trans (below_row3 hg3 hE hsz2 f3.size)
 have hgbn : gb ≠ gs := fun e => by have := HF2.out; omega
 have hlo0 : w.heap.size < gb := by omega
 clear f0 f1
 have hgsW : gb < gs := by have := HF2.out; omega
 have hl0 : L1 W3 gb gs n (f1 a b 0) W3 (.slice none 0 0) [] := ⟨Kept.refl _ _, k1, OwnG.nil _ _, hsum.congr fun j _ => by unfold f1; rw [if_neg (Nat.not_lt_zero j)]⟩
 have HNL := Lib.hid hcs
 clear hcs hsum k1 hg3 hE hba hb2 k0' k1' hNN hnlN hnc hgs1 hgb
 go_wp2_with fail
 go_loopw [13] (fun kk wr => ∃ (k : Nat) (vc : Value) (l : List Nat), k ≤ n ∧ kk = .int .i64 (k : Nat) ∧ addT a.c b.c k = some l ∧ L1 W3 gb gs n (f1 a b k) wr vc l) (fun kk _ => n - (intOf kk).toNat)
 case atStart => exact ⟨0, _, [], Nat.zero_le _, rfl, rfl, hl0⟩
 case round =>
  obtain ⟨k, vc, l, hk, rfl, hT, hst⟩ := hrel
  have HT := Lib.hid hT
  have hll : l.length ≤ 256 := by have := addT_len hT; omega
  clear hT hl0
  have hKp := hst.kept
  have hBr := hB3.trans (hKp.below hB3.size (fun b hb => by
   rcases List.mem_cons.1 hb with e | e
   ·omega
   ·rw [List.mem_singleton.1 e]; omega))
  have k0r : UB wr w.heap.size _ _ _ _ _ _ := (hKp.block _ k0.lt (fun hm => by
   rcases List.mem_cons.1 hm with e | e
   ·omega
   ·have := List.mem_singleton.1 e; omega)).trans k0
  by_cases hlt : k < n
  ·have hlt' : (k : Int) < (n : Int) := by omega
   obtain ⟨bc, oc, x, rfl, hbc, x0, x1, x2, hx⟩ := (hc.below hBr).row k _ (sumL_get a.c b.c hlt)
   have hne := near_any wr x _ hx (sum2_le (getD_num a.c ha.numC k) (getD_num b.c hb.numC k))
   have hfw := f1_W ha hb k
   obtain ⟨u, ok, hnd⟩ : ∃ u ok, nearD (a.c.getD k 0) (b.c.getD k 0) = (u, ok) := ⟨_, _, rfl⟩
   have hls : lossZ (a.c.getD k 0) (b.c.getD k 0) = zabs (fz (a.c.getD k 0) + fz (b.c.getD k 0) - fz u) := by unfold lossZ; rw [hnd]
   rw [show roundS 0 (some (fz (a.c.getD k 0) + fz (b.c.getD k 0))) = (u, ok) from hnd] at hne
   dsimp only at hne
   unfold TellsNear at hne
   rw [← hls] at hne
   have HND := Lib.hid hnd
   have HFW := Lib.hid hfw
   clear hls hnd hx hbc hfw
   go_wp2_with fail
   refine hne.mono ?_
   clear x0 x1 x2 hne
   cases ok with
   | false =>
    rintro e w4 ⟨y, rfl, _, hb4⟩
    have hb5 := hb4.trans ((below_alloc w4 (.cells #[.bool y.neg, .slice y.A y.n y.cap, .int .i64 y.E] 70)).mono hb4.size)
    have k0 : UB (w4.alloc (.cells #[.bool y.neg, .slice y.A y.n y.cap, .int .i64 y.E] 70)) w.heap.size _ _ _ _ _ _ := k0r.below hb5
    have hB5 := hBr.trans (hb5.mono hBr.size)
    obtain ⟨o0, o1, o2, o3, o4, o5⟩ := UB.cells k0
    have hfr0 := fun j => UB.frozen k0 j
    have HE := Lib.hid (show plusZ a b n U = none from plusZ_c (addT_none (addT_over HT.out (by rw [HND.out])) _ hlt))
    go_wp2_with fail
    obtain ⟨q1, q2⟩ := UB.put k0 (.int .i64 0) (.slice none 0 0) (.slice none 0 0) (.slice none 0 0) (.slice none 0 0) (.bool false)
    obtain ⟨c0, c1, c2, c3, c4, c5⟩ := q1.cells
    refine bodyPost_ret (v := .tuple #[.agg #[.int .i64 0, .slice none 0 0, .slice none 0 0, .slice none 0 0, .slice none 0 0, .bool false], .bool false]) (by simp [results, Tryz.results104, go_sem, c0, c1, c2, c3, c4, c5]) rfl ?_
    exact Or.inl ⟨HE.out, rfl, hB5.trans (below_row q2 (by omega) hB5.size)⟩
   | true =>
    rintro e w4 ⟨y, rfl, hy, hb4⟩
    replace hy := hy rfl
    have hb5 := hb4.trans ((below_alloc w4 (.cells #[.bool y.neg, .slice y.A y.n y.cap, .int .i64 y.E] 70)).mono hb4.size)
    have kY : NumB (w4.alloc (.cells #[.bool y.neg, .slice y.A y.n y.cap, .int .i64 y.E] 70)) w4.heap.size y := heap_alloc_new w4 _
    have hst5 := hst.b hb5
    have hy5 := hy.below (below_alloc w4 (.cells #[.bool y.neg, .slice y.A y.n y.cap, .int .i64 y.E] 70))
    clear hy hb4 hb5 hst k0r hBr hKp
    go_upto_region 10 with fail
    generalize w4.alloc (.cells #[.bool y.neg, .slice y.A y.n y.cap, .int .i64 y.E] 70) = w5 at *
    generalize w4.heap.size = bb at *
    have hx6 := below_alloc w5 (.cells #[.int .u64 (u : Nat)] 46)
    have hst6 := hst5.b hx6
    have kY6 := kY.below hx6
    have hy6 := hy5.below hx6
    have p1 := hst5.out.cells.2.1
    clear hst5 kY hy5 hx6
    go_wp2_with (at_builtin; refine wpList_app1 cU 8 (.int .u64 0) 27 46 Tryz.underlying27 infoU rfl rfl (.tmp 52) (.tmp 54) rfl W3.heap.size vc l u _ w5.heap.size rfl rfl hst6.c rfl rfl (cell_new0 w5 _ 46) (by omega) (by omega) hst6.size ?_; intro v7 w7 ho7 hg7 _; obtain ⟨A7, c7, hv7, _⟩ := ho7.lat; rw [List.length_append, List.length_singleton] at hv7; subst hv7; obtain ⟨kz, kst⟩ := hst6.putC ho7 hg7; have KK := Lib.hid (And.intro kst (And.intro (show NumB w7 bb y from block_far kY6 hg7 hst6.c.typed (by decide)) (hy6.far hg7 hst6.c.typed (by decide)))); clear kst ho7 hg7 hst6 kY6 hy6 p1; obtain ⟨y0, y1, y2, y3, y4, y5⟩ := kz.cells; have fr8 := (fun j => kz.frozen j))
    obtain ⟨hst8, kY7, hy7⟩ := KK.out
    obtain ⟨_, q2⟩ := kz.set1 (.slice A7 (l.length + 1) c7)
    have hz8 : ∀ k, some gb = some k → Typed w7 k 30 := fun k e => by cases e; exact kz.typed
    have kY : NumB _ bb y := block_far kY7 q2 hz8 (by decide)
    have hy8 := hy7.far q2 hz8 (by decide)
    clear KK kY7 hy7 hz8 q2 y0 y1 y2 y3 y4 y5 fr8 kz
    generalize w7.setCell ⟨gb, 1, none⟩ (.slice A7 (l.length + 1) c7) = W8 at *
    obtain ⟨xs, s0, s1, s2, hxs⟩ := hst8.sum.at hlt
    have hgs8 := hst8.sum.lt
    have hS : ∀ W', Below W8.heap.size W8 W' → (fun w' => (w'.cell? ⟨gs, k * 3, none⟩ = some (.bool xs.neg) ∧ w'.cell? ⟨gs, k * 3 + 1, none⟩ = some (.slice xs.A xs.n xs.cap) ∧ w'.cell? ⟨gs, k * 3 + 2, none⟩ = some (.int .i64 xs.E)) ∧ w'.cell? ⟨bb, 0, none⟩ = some (.bool y.neg) ∧ w'.cell? ⟨bb, 1, none⟩ = some (.slice y.A y.n y.cap) ∧ w'.cell? ⟨bb, 2, none⟩ = some (.int .i64 y.E)) W' := fun W' hb => ⟨⟨(hb.cell (p := ⟨gs, k * 3, none⟩) hgs8).trans s0, (hb.cell (p := ⟨gs, k * 3 + 1, none⟩) hgs8).trans s1, (hb.cell (p := ⟨gs, k * 3 + 2, none⟩) hgs8).trans s2⟩, (kY.below hb).cells⟩
    have hd := (Below.refl W8.heap.size W8).drew
    have hpl := fun W (hb : Below W8.heap.size W8 W) => plus_r W (-2212) 5000 xs y _ _ (hxs.below hb) (hy8.below hb) (by decide) (by decide) (by decide) (by decide) (HFW.out)
    refine late_begin (fun w' => (w'.cell? ⟨gs, k * 3, none⟩ = some (.bool xs.neg) ∧ w'.cell? ⟨gs, k * 3 + 1, none⟩ = some (.slice xs.A xs.n xs.cap) ∧ w'.cell? ⟨gs, k * 3 + 2, none⟩ = some (.int .i64 xs.E)) ∧ w'.cell? ⟨bb, 0, none⟩ = some (.bool y.neg) ∧ w'.cell? ⟨bb, 1, none⟩ = some (.slice y.A y.n y.cap) ∧ w'.cell? ⟨bb, 2, none⟩ = some (.int .i64 y.E)) [9] (by kernel_rfl) ?_
    refine lateT 0 (some 57) rfl rfl (hS _ hd) ?_
    try simp only [Act.put, lA, lZ, lC]
    refine lateT 1 (some 58) rfl rfl (hS _ hd) ?_
    try simp only [Act.put, lA, lZ, lC]
    refine lateT 2 (some 59) rfl rfl (hS _ hd) ?_
    try simp only [Act.put, lA, lZ, lC]
    refine lateT 3 (some 60) rfl rfl (hS _ hd) ?_
    try simp only [Act.put, lA, lZ, lC]
    refine lateT 4 (some 61) rfl rfl (hS _ hd) ?_
    try simp only [Act.put, lA, lZ, lC]
    refine lateT 5 (some 62) rfl rfl (hS _ hd) ?_
    try simp only [Act.put, lA, lZ, lC]
    refine lateT 6 (some 63) rfl rfl (hS _ hd) ?_
    try simp only [Act.put, lA, lZ, lC]
    refine late_one (i := 7) rfl (by kernel_rfl) ?_
    intro K hK
    go_simp
    refine (hpl _ hd).mono ?_
    rintro e w9 ⟨sx, rfl, hsx, hb9⟩
    have f9 := hd.trans (hb9.mono hd.size)
    try show K _ _
    refine hK.out _ _ (Or.inr (hS _ f9)) ?_
    clear hK K
    try simp only [Act.put, lA, lZ, lC]
    refine lateT 8 (some 65) rfl rfl (hS _ f9) ?_
    try simp only [Act.put, lA, lZ, lC]
    refine late_one (i := 9) rfl (by kernel_rfl) ?_
    intro K hK
    have hst9 := hst8.b f9
    obtain ⟨ys, t0, t1, t2, _⟩ := hst9.sum.at hlt
    have hfs := fun j => hst9.sum.frozen j
    go_simp
    try show K _ _
    refine hK.out _ _ (Or.inl (by decide)) ?_
    clear hK K
    try simp only [Act.put, lA, lZ, lC]
    refine late_done (by kernel_rfl) ?_ _
    clear hS hd hpl
    have hstF := (hst9.putS hlt hsx).congr fun j _ => f1_step a b k j
    have HSF := Lib.hid hstF
    clear hstF hst9 hst8 t0 t1 t2 s0 s1 s2 hxs hy8 kY hsx hb9 f9
    go_wp2_with fail
    go_roundw
    case rel => exact ⟨k + 1, _, _, by omega, by go_num, (by have h := addT_more HT.out (by rw [HND.out]); rw [HND.out] at h; exact h), HSF.out⟩
    case measure => simp [intOf]; omega
  ·obtain rfl : n = k := by omega
   have hlt' : decide ((n : Int) < (n : Nat)) = false := by simp
   have HT1 := HT
   obtain ⟨Avc, cvc, rfl, hcT⟩ := hst.c.tat
   rw [addT_len HT.out] at *
   have hst2 : L2 wr gb gs n (.slice Avc n cvc) (offF a b n U 0) wr (.slice none 0 0) (.slice none 0 0) [] [] [] := ⟨Kept.refl _ _, hst.out, OwnG.nil _ _, GAcc.nil _ _ _ _ _, hst.sum.congr fun j hj => f1_end a b n U hj⟩
   have k04 := k0r
   have hB4 := hBr
   have hszgs := hst.sum.lt
   have hszgb := hst.out.lt
   have HTY := Lib.hid (And.intro hst.out.typed hst.sum.typed)
   clear hst hKp hBr k0r k0 hlt hll hk hlt'
   generalize wr = W4 at *
   go_wp2_with fail
   go_loopw [17] (fun kk wr => ∃ (j : Nat) (vi vg : Value) (vals : List Value) (is : List Int) (ls : List (List Nat)), j ≤ U.length ∧ kk = .int .i64 (j : Nat) ∧ gT a b n U j = some (is, ls) ∧ L2 W4 gb gs n (.slice Avc n cvc) (offF a b n U j) wr vi vg vals is ls) (fun kk _ => U.length - (intOf kk).toNat)
   case atStart => exact ⟨0, _, _, [], [], [], Nat.zero_le _, rfl, rfl, hst2⟩
   case round =>
    obtain ⟨j, vi, vg, vals, is, ls, hj, rfl, hG, hst⟩ := hrel
    have HG := Lib.hid hG
    clear hG hst2
    have hKp := hst.kept
    have hBr := hB4.trans (hKp.below hB4.size (fun b hb => by
     rcases List.mem_cons.1 hb with e | e
     ·omega
     ·rw [List.mem_singleton.1 e]; omega))
    have k0r : UB wr w.heap.size _ _ _ _ _ _ := (hKp.block _ k04.lt (fun hm => by
     rcases List.mem_cons.1 hm with e | e
     ·omega
     ·have := List.mem_singleton.1 e; omega)).trans k04
    by_cases hltj : j < U.length
    ·have hltj' : (j : Int) < (U.length : Int) := by omega
     obtain ⟨i0, hi0⟩ := get_some U j hltj
     have hgi : U.getD j 0 = i0 := by rw [List.getD_eq_getElem?_getD, hi0, Option.getD_some]
     have hgm : (U.map fun i => sumL (colI a n i) (colI b n i) n)[j]? = some (sumL (colI a n i0) (colI b n i0) n) := by rw [List.getElem?_map, hi0]; rfl
     have hf2s := fun i x => f2_step a b n U j i x
     have hf2w := fun i => f2_W ha hb n U j i (by have := HUL.out; omega)
     rw [hgi] at hf2s hf2w
     have HF := Lib.hid (And.intro hf2s hf2w)
     have HI0 := Lib.hid (And.intro hi0 hgi)
     have HGM := Lib.hid hgm
     clear hf2s hf2w hi0 hgi hgm
     have hjl : j < 2147483650 := by have := HUL.out; omega
     have hmc := make_col n (by omega) wr
     have hco := ColB.made wr n
     have hbm := below_alloc wr (.cells (madeCells #[.int .u64 0] n) 46)
     have hsm := (hst.sum.below hbm).congr fun x _ => f2_zero a b n U j x
     have hBm := hBr.trans (hbm.mono hBr.size)
     have k0m := k0r.below hbm
     have hgsm := hst.sum.lt
     go_upto_region 16 with fail
     obtain ⟨Wj, hWj⟩ : ∃ W, W = wr := ⟨_, rfl⟩
     subst hWj
     have hKm := Kept.of_below [gs] hbm
     generalize Wj.alloc (.cells (madeCells #[.int .u64 0] n) 46) = Wm at *
     obtain ⟨gc, hgc⟩ : ∃ g, Wj.heap.size = g := ⟨_, rfl⟩
     have hgc' : Wj.heap.size ≤ gc := by omega
     rw [hgc] at hco hbm ⊢
     clear hgc hmc hbm k0r hBr hKp
     have hszm : gc < Wm.heap.size := hco.typed.lt
     have hin0 : L2i Wm gs gc n (f2 a b n U j 0) Wm [] := ⟨Kept.refl _ _, hco, hsm⟩
     clear hco hsm
     have hlow : w.heap.size ≤ gs ∧ w.heap.size ≤ gc := ⟨by omega, by have := hst.size; omega⟩
     have HST := Lib.hid hst
     clear hst
     go_wp2_with fail
     go_loopw [19, 20] (fun any kk wr => ∃ (i : Nat) (l : List Nat), i ≤ n ∧ any = .bool (anyF l) ∧ kk = .int .i64 (i : Nat) ∧ addT (colI a n i0) (colI b n i0) i = some l ∧ L2i Wm gs gc n (f2 a b n U j i) wr l) (fun _ kk _ => n - (intOf kk).toNat)
     case atStart => exact ⟨0, [], Nat.zero_le _, rfl, rfl, rfl, hin0⟩
     case round =>
      obtain ⟨i, l, hi, rfl, rfl, hT2, hst⟩ := hrel
      have HT := Lib.hid hT2
      have HLL := Lib.hid (addT_len hT2)
      clear hT2 hin0
      have hBr := hBm.trans (hst.kept.below hBm.size (fun b hb => by
       rcases List.mem_cons.1 hb with e | e
       ·omega
       ·rw [List.mem_singleton.1 e]; omega))
      have k0r : UB wr w.heap.size _ _ _ _ _ _ := (hst.kept.block _ k0m.lt (fun hm => by
       rcases List.mem_cons.1 hm with e | e
       ·omega
       ·have := List.mem_singleton.1 e; omega)).trans k0m
      by_cases hlti : i < n
      ·have hlti' : (i : Int) < (n : Int) := by omega
       obtain ⟨bg, og, rfl, hbg, B', cap', g0, hnl⟩ := (hg.below hBr) j _ HGM.out
       rw [sumL_len] at g0
       obtain ⟨bc, oc, x, rfl, hbc, x0, x1, x2, hx⟩ := hnl.row i _ (sumL_get _ _ hlti)
       have hne := near_any wr x _ hx (sum2_le (getD_num _ (colI_num ha n i0) i) (getD_num _ (colI_num hb n i0) i))
       obtain ⟨u, ok, hnd⟩ : ∃ u ok, nearD ((colI a n i0).getD i 0) ((colI b n i0).getD i 0) = (u, ok) := ⟨_, _, rfl⟩
       have hls : lossZ ((colI a n i0).getD i 0) ((colI b n i0).getD i 0) = zabs (fz ((colI a n i0).getD i 0) + fz ((colI b n i0).getD i 0) - fz u) := by unfold lossZ; rw [hnd]
       have hnz := near_zero ((colI a n i0).getD i 0) ((colI b n i0).getD i 0)
       rw [show roundS 0 (some (fz ((colI a n i0).getD i 0) + fz ((colI b n i0).getD i 0))) = (u, ok) from hnd] at hne
       rw [hnd] at hnz
       dsimp only at hne hnz
       unfold TellsNear at hne
       rw [← hls] at hne
       have HND := Lib.hid hnd
       have HNZ := Lib.hid hnz
       have hFW := Lib.hid (HF.out.2 i)
       clear hls hnd hx hbc hnl hbg hnz
       go_wp2_with fail
       refine hne.mono ?_
       clear x0 x1 x2 hne g0
       cases ok with
       | false =>
        rintro e w4 ⟨y, rfl, _, hb4⟩
        have hb5 := hb4.trans ((below_alloc w4 (.cells #[.bool y.neg, .slice y.A y.n y.cap, .int .i64 y.E] 70)).mono hb4.size)
        have k0 : UB (w4.alloc (.cells #[.bool y.neg, .slice y.A y.n y.cap, .int .i64 y.E] 70)) w.heap.size _ _ _ _ _ _ := k0r.below hb5
        have hB5 := hBr.trans (hb5.mono hBr.size)
        obtain ⟨o0, o1, o2, o3, o4, o5⟩ := UB.cells k0
        have hfr0 := fun j => UB.frozen k0 j
        have HE := Lib.hid (show plusZ a b n U = none from plusZ_g HT1.out (gT_none (gT_over HG.out (by rw [HI0.out.2]; exact addT_none (addT_over HT.out (by rw [HND.out])) _ hlti)) _ hltj))
        go_wp2_with fail
        obtain ⟨q1, q2⟩ := UB.put k0 (.int .i64 0) (.slice none 0 0) (.slice none 0 0) (.slice none 0 0) (.slice none 0 0) (.bool false)
        obtain ⟨c0, c1, c2, c3, c4, c5⟩ := q1.cells
        refine bodyPost_ret (v := .tuple #[.agg #[.int .i64 0, .slice none 0 0, .slice none 0 0, .slice none 0 0, .slice none 0 0, .bool false], .bool false]) (by simp [results, Tryz.results104, go_sem, c0, c1, c2, c3, c4, c5]) rfl ?_
        exact Or.inl ⟨HE.out, rfl, hB5.trans (below_row q2 (by omega) hB5.size)⟩
       | true =>
        rintro e w4 ⟨y, rfl, hy, hb4⟩
        replace hy := hy rfl
        have hb5 := hb4.trans ((below_alloc w4 (.cells #[.bool y.neg, .slice y.A y.n y.cap, .int .i64 y.E] 70)).mono hb4.size)
        have kY : NumB (w4.alloc (.cells #[.bool y.neg, .slice y.A y.n y.cap, .int .i64 y.E] 70)) w4.heap.size y := heap_alloc_new w4 _
        have hst5 := hst.b hb5
        have hy5 := hy.below (below_alloc w4 (.cells #[.bool y.neg, .slice y.A y.n y.cap, .int .i64 y.E] 70))
        clear hy hb4 hb5 hst k0r hBr
        go_upto_region 21 with fail
        generalize w4.alloc (.cells #[.bool y.neg, .slice y.A y.n y.cap, .int .i64 y.E] 70) = w5 at *
        generalize w4.heap.size = bb at *
        obtain ⟨⟨cv, cv0⟩, cv1⟩ := hst5.col.at hlti
        have hst8 := hst5.putU hlti HLL.out u
        have hco5 := hst5.col
        obtain ⟨_, q2⟩ := hco5.set hlti HLL.out u
        have hz8 : ∀ k, some gc = some k → Typed w5 k 46 := fun k e => by cases e; exact hco5.typed
        have kY8 : NumB _ bb y := block_far kY q2 hz8 (by decide)
        have hy8 := hy5.far q2 hz8 (by decide)
        have hanl := anyF_snoc l u
        rw [HNZ.out] at hanl
        clear q2 hz8 kY hy5 hst5 hco5
        go_upto_region 24 with fail
        have kY := kY8
        clear kY8 cv0 cv1
        generalize w5.setCell ⟨gc, i, none⟩ (.int .u64 (u : Nat)) = W8 at *
        obtain ⟨xs, s0, s1, s2, hxs⟩ := hst8.sum.at hlti
        have hgs8 := hst8.sum.lt
        have HAN := Lib.hid hanl
        clear hanl
        cases hanf : anyF l with
        | true =>
         have HA2 := Lib.hid (show anyF (l ++ [u]) = true by rw [HAN.out, hanf]; rfl)
         go_wp2_with fail
         have hS : ∀ W', Below W8.heap.size W8 W' → (fun w' => (w'.cell? ⟨gs, i * 3, none⟩ = some (.bool xs.neg) ∧ w'.cell? ⟨gs, i * 3 + 1, none⟩ = some (.slice xs.A xs.n xs.cap) ∧ w'.cell? ⟨gs, i * 3 + 2, none⟩ = some (.int .i64 xs.E)) ∧ w'.cell? ⟨bb, 0, none⟩ = some (.bool y.neg) ∧ w'.cell? ⟨bb, 1, none⟩ = some (.slice y.A y.n y.cap) ∧ w'.cell? ⟨bb, 2, none⟩ = some (.int .i64 y.E)) W' := fun W' hb => ⟨⟨(hb.cell (p := ⟨gs, i * 3, none⟩) hgs8).trans s0, (hb.cell (p := ⟨gs, i * 3 + 1, none⟩) hgs8).trans s1, (hb.cell (p := ⟨gs, i * 3 + 2, none⟩) hgs8).trans s2⟩, (kY.below hb).cells⟩
         have hd := (Below.refl W8.heap.size W8).drew
         have hpl := fun W (hb : Below W8.heap.size W8 W) => plus_r W (-2212) 5000 xs y _ _ (hxs.below hb) (hy8.below hb) (by decide) (by decide) (by decide) (by decide) (hFW.out)
         refine late_begin (fun w' => (w'.cell? ⟨gs, i * 3, none⟩ = some (.bool xs.neg) ∧ w'.cell? ⟨gs, i * 3 + 1, none⟩ = some (.slice xs.A xs.n xs.cap) ∧ w'.cell? ⟨gs, i * 3 + 2, none⟩ = some (.int .i64 xs.E)) ∧ w'.cell? ⟨bb, 0, none⟩ = some (.bool y.neg) ∧ w'.cell? ⟨bb, 1, none⟩ = some (.slice y.A y.n y.cap) ∧ w'.cell? ⟨bb, 2, none⟩ = some (.int .i64 y.E)) [9] (by kernel_rfl) ?_
         refine lateT 0 (some 103) rfl rfl (hS _ hd) ?_
         try simp only [Act.put, lA, lZ, lC]
         refine lateT 1 (some 104) rfl rfl (hS _ hd) ?_
         try simp only [Act.put, lA, lZ, lC]
         refine lateT 2 (some 105) rfl rfl (hS _ hd) ?_
         try simp only [Act.put, lA, lZ, lC]
         refine lateT 3 (some 106) rfl rfl (hS _ hd) ?_
         try simp only [Act.put, lA, lZ, lC]
         refine lateT 4 (some 107) rfl rfl (hS _ hd) ?_
         try simp only [Act.put, lA, lZ, lC]
         refine lateT 5 (some 108) rfl rfl (hS _ hd) ?_
         try simp only [Act.put, lA, lZ, lC]
         refine lateT 6 (some 109) rfl rfl (hS _ hd) ?_
         try simp only [Act.put, lA, lZ, lC]
         refine late_one (i := 7) rfl (by kernel_rfl) ?_
         intro K hK
         go_simp
         refine (hpl _ hd).mono ?_
         rintro e w9 ⟨sx, rfl, hsx, hb9⟩
         have f9 := hd.trans (hb9.mono hd.size)
         try show K _ _
         refine hK.out _ _ (Or.inr (hS _ f9)) ?_
         clear hK K
         try simp only [Act.put, lA, lZ, lC]
         refine lateT 8 (some 111) rfl rfl (hS _ f9) ?_
         try simp only [Act.put, lA, lZ, lC]
         refine late_one (i := 9) rfl (by kernel_rfl) ?_
         intro K hK
         have hst9 := hst8.b f9
         obtain ⟨ys, t0, t1, t2, _⟩ := hst9.sum.at hlti
         have hfs := fun j => hst9.sum.frozen j
         go_simp
         try show K _ _
         refine hK.out _ _ (Or.inl (by decide)) ?_
         clear hK K
         try simp only [Act.put, lA, lZ, lC]
         refine late_done (by kernel_rfl) ?_ _
         clear hS hd hpl
         have hstF := (hst9.putS hlti hsx).congr fun x _ => HF.out.1 i x
         have HSF := Lib.hid hstF
         clear hstF hst9 hst8 t0 t1 t2 s0 s1 s2 hxs hy8 kY hsx hb9 f9 hfs
         go_wp2_with fail
         go_roundw
         case rel => exact ⟨i + 1, _, by omega, by rw [HA2.out], by go_num, (by have h := addT_more HT.out (by rw [HND.out]); rw [HND.out] at h; exact h), HSF.out⟩
         case measure => simp [intOf]; omega
        | false =>
         by_cases hu0 : u = 0
         ·subst hu0
          have HA2 := Lib.hid (show anyF (l ++ [0]) = false by rw [HAN.out, hanf]; rfl)
          go_wp2_with fail
          have hS : ∀ W', Below W8.heap.size W8 W' → (fun w' => (w'.cell? ⟨gs, i * 3, none⟩ = some (.bool xs.neg) ∧ w'.cell? ⟨gs, i * 3 + 1, none⟩ = some (.slice xs.A xs.n xs.cap) ∧ w'.cell? ⟨gs, i * 3 + 2, none⟩ = some (.int .i64 xs.E)) ∧ w'.cell? ⟨bb, 0, none⟩ = some (.bool y.neg) ∧ w'.cell? ⟨bb, 1, none⟩ = some (.slice y.A y.n y.cap) ∧ w'.cell? ⟨bb, 2, none⟩ = some (.int .i64 y.E)) W' := fun W' hb => ⟨⟨(hb.cell (p := ⟨gs, i * 3, none⟩) hgs8).trans s0, (hb.cell (p := ⟨gs, i * 3 + 1, none⟩) hgs8).trans s1, (hb.cell (p := ⟨gs, i * 3 + 2, none⟩) hgs8).trans s2⟩, (kY.below hb).cells⟩
          have hd := (Below.refl W8.heap.size W8).drew
          have hpl := fun W (hb : Below W8.heap.size W8 W) => plus_r W (-2212) 5000 xs y _ _ (hxs.below hb) (hy8.below hb) (by decide) (by decide) (by decide) (by decide) (hFW.out)
          refine late_begin (fun w' => (w'.cell? ⟨gs, i * 3, none⟩ = some (.bool xs.neg) ∧ w'.cell? ⟨gs, i * 3 + 1, none⟩ = some (.slice xs.A xs.n xs.cap) ∧ w'.cell? ⟨gs, i * 3 + 2, none⟩ = some (.int .i64 xs.E)) ∧ w'.cell? ⟨bb, 0, none⟩ = some (.bool y.neg) ∧ w'.cell? ⟨bb, 1, none⟩ = some (.slice y.A y.n y.cap) ∧ w'.cell? ⟨bb, 2, none⟩ = some (.int .i64 y.E)) [9] (by kernel_rfl) ?_
          refine lateT 0 (some 103) rfl rfl (hS _ hd) ?_
          try simp only [Act.put, lA, lZ, lC]
          refine lateT 1 (some 104) rfl rfl (hS _ hd) ?_
          try simp only [Act.put, lA, lZ, lC]
          refine lateT 2 (some 105) rfl rfl (hS _ hd) ?_
          try simp only [Act.put, lA, lZ, lC]
          refine lateT 3 (some 106) rfl rfl (hS _ hd) ?_
          try simp only [Act.put, lA, lZ, lC]
          refine lateT 4 (some 107) rfl rfl (hS _ hd) ?_
          try simp only [Act.put, lA, lZ, lC]
          refine lateT 5 (some 108) rfl rfl (hS _ hd) ?_
          try simp only [Act.put, lA, lZ, lC]
          refine lateT 6 (some 109) rfl rfl (hS _ hd) ?_
          try simp only [Act.put, lA, lZ, lC]
          refine late_one (i := 7) rfl (by kernel_rfl) ?_
          intro K hK
          go_simp
          refine (hpl _ hd).mono ?_
          rintro e w9 ⟨sx, rfl, hsx, hb9⟩
          have f9 := hd.trans (hb9.mono hd.size)
          try show K _ _
          refine hK.out _ _ (Or.inr (hS _ f9)) ?_
          clear hK K
          try simp only [Act.put, lA, lZ, lC]
          refine lateT 8 (some 111) rfl rfl (hS _ f9) ?_
          try simp only [Act.put, lA, lZ, lC]
          refine late_one (i := 9) rfl (by kernel_rfl) ?_
          intro K hK
          have hst9 := hst8.b f9
          obtain ⟨ys, t0, t1, t2, _⟩ := hst9.sum.at hlti
          have hfs := fun j => hst9.sum.frozen j
          go_simp
          try show K _ _
          refine hK.out _ _ (Or.inl (by decide)) ?_
          clear hK K
          try simp only [Act.put, lA, lZ, lC]
          refine late_done (by kernel_rfl) ?_ _
          clear hS hd hpl
          have hstF := (hst9.putS hlti hsx).congr fun x _ => HF.out.1 i x
          have HSF := Lib.hid hstF
          clear hstF hst9 hst8 t0 t1 t2 s0 s1 s2 hxs hy8 kY hsx hb9 f9 hfs
          go_wp2_with fail
          go_roundw
          case rel => exact ⟨i + 1, _, by omega, by rw [HA2.out], by go_num, (by have h := addT_more HT.out (by rw [HND.out]); rw [HND.out] at h; exact h), HSF.out⟩
          case measure => simp [intOf]; omega
         ·have HA2 := Lib.hid (show anyF (l ++ [u]) = true by rw [HAN.out, hanf, decide_eq_false hu0]; rfl)
          have hu1 : ((u : Int) == 0) = false := beq_eq_false_iff_ne.2 (by omega)
          have hu2 : ((u : Int) != 0) = true := bne_iff_ne.2 (by omega)
          go_wp2_with fail
          have hS : ∀ W', Below W8.heap.size W8 W' → (fun w' => (w'.cell? ⟨gs, i * 3, none⟩ = some (.bool xs.neg) ∧ w'.cell? ⟨gs, i * 3 + 1, none⟩ = some (.slice xs.A xs.n xs.cap) ∧ w'.cell? ⟨gs, i * 3 + 2, none⟩ = some (.int .i64 xs.E)) ∧ w'.cell? ⟨bb, 0, none⟩ = some (.bool y.neg) ∧ w'.cell? ⟨bb, 1, none⟩ = some (.slice y.A y.n y.cap) ∧ w'.cell? ⟨bb, 2, none⟩ = some (.int .i64 y.E)) W' := fun W' hb => ⟨⟨(hb.cell (p := ⟨gs, i * 3, none⟩) hgs8).trans s0, (hb.cell (p := ⟨gs, i * 3 + 1, none⟩) hgs8).trans s1, (hb.cell (p := ⟨gs, i * 3 + 2, none⟩) hgs8).trans s2⟩, (kY.below hb).cells⟩
          have hd := (Below.refl W8.heap.size W8).drew
          have hpl := fun W (hb : Below W8.heap.size W8 W) => plus_r W (-2212) 5000 xs y _ _ (hxs.below hb) (hy8.below hb) (by decide) (by decide) (by decide) (by decide) (hFW.out)
          refine late_begin (fun w' => (w'.cell? ⟨gs, i * 3, none⟩ = some (.bool xs.neg) ∧ w'.cell? ⟨gs, i * 3 + 1, none⟩ = some (.slice xs.A xs.n xs.cap) ∧ w'.cell? ⟨gs, i * 3 + 2, none⟩ = some (.int .i64 xs.E)) ∧ w'.cell? ⟨bb, 0, none⟩ = some (.bool y.neg) ∧ w'.cell? ⟨bb, 1, none⟩ = some (.slice y.A y.n y.cap) ∧ w'.cell? ⟨bb, 2, none⟩ = some (.int .i64 y.E)) [9] (by kernel_rfl) ?_
          refine lateT 0 (some 103) rfl rfl (hS _ hd) ?_
          try simp only [Act.put, lA, lZ, lC]
          refine lateT 1 (some 104) rfl rfl (hS _ hd) ?_
          try simp only [Act.put, lA, lZ, lC]
          refine lateT 2 (some 105) rfl rfl (hS _ hd) ?_
          try simp only [Act.put, lA, lZ, lC]
          refine lateT 3 (some 106) rfl rfl (hS _ hd) ?_
          try simp only [Act.put, lA, lZ, lC]
          refine lateT 4 (some 107) rfl rfl (hS _ hd) ?_
          try simp only [Act.put, lA, lZ, lC]
          refine lateT 5 (some 108) rfl rfl (hS _ hd) ?_
          try simp only [Act.put, lA, lZ, lC]
          refine lateT 6 (some 109) rfl rfl (hS _ hd) ?_
          try simp only [Act.put, lA, lZ, lC]
          refine late_one (i := 7) rfl (by kernel_rfl) ?_
          intro K hK
          go_simp
          refine (hpl _ hd).mono ?_
          rintro e w9 ⟨sx, rfl, hsx, hb9⟩
          have f9 := hd.trans (hb9.mono hd.size)
          try show K _ _
          refine hK.out _ _ (Or.inr (hS _ f9)) ?_
          clear hK K
          try simp only [Act.put, lA, lZ, lC]
          refine lateT 8 (some 111) rfl rfl (hS _ f9) ?_
          try simp only [Act.put, lA, lZ, lC]
          refine late_one (i := 9) rfl (by kernel_rfl) ?_
          intro K hK
          have hst9 := hst8.b f9
          obtain ⟨ys, t0, t1, t2, _⟩ := hst9.sum.at hlti
          have hfs := fun j => hst9.sum.frozen j
          go_simp
          try show K _ _
          refine hK.out _ _ (Or.inl (by decide)) ?_
          clear hK K
          try simp only [Act.put, lA, lZ, lC]
          refine late_done (by kernel_rfl) ?_ _
          clear hS hd hpl
          have hstF := (hst9.putS hlti hsx).congr fun x _ => HF.out.1 i x
          have HSF := Lib.hid hstF
          clear hstF hst9 hst8 t0 t1 t2 s0 s1 s2 hxs hy8 kY hsx hb9 f9 hfs
          go_wp2_with fail
          go_roundw
          case rel => exact ⟨i + 1, _, by omega, by rw [HA2.out], by go_num, (by have h := addT_more HT.out (by rw [HND.out]); rw [HND.out] at h; exact h), HSF.out⟩
          case measure => simp [intOf]; omega
      ·obtain rfl : n = i := by omega
       have hlt' : decide ((n : Int) < (n : Nat)) = false := by simp
       have hKj : Kept [gs] Wj wr := ((hKm.mono (fun b hb => by rw [List.mem_singleton.1 hb]; exact List.mem_cons_self)).trans hst.kept).drop hgc'
       have hsj : SumB wr gs n (offF a b n U (j + 1)) := hst.sum.congr fun x hx => f2_end a b n U j hx
       have hstj := HST.out.turn hKj hsj
       have hTc := hst.col.tat HLL.out (by unfold maxLen; omega)
       clear hKj hsj hst k0r
       cases hanf : anyF l with
       | false =>
        go_wp2_with fail
        go_roundw
        case rel => exact ⟨j + 1, vi, vg, vals, is, ls, by omega, by go_num, gT_skip HG.out (by rw [HI0.out.2]; exact HT.out) hanf, hstj⟩
        case measure => simp [intOf]; omega
       | true =>
        obtain ⟨hisl, hvsl⟩ : is.length ≤ 2147483650 ∧ vals.length ≤ 2147483650 := by
         have h1 := gT_len HG.out
         have h3 := hstj.g.len
         omega
        obtain ⟨bu, ou, rfl, hbu, cu⟩ := R1.at hU.row hBr j i0 HI0.out.1
        replace cu : wr.cell? ⟨bu, ou + j, none⟩ = some (.int .i64 i0) := cu
        have hbu' := Nat.lt_of_lt_of_le hbu hBr.size
        have hbuW := Nat.lt_of_lt_of_le hbu hB4.size
        have HAN := Lib.hid hanf
        clear hanf
        go_upto_region 27 with fail
        have hS : ∀ W', Below wr.heap.size wr W' → (fun w' => w'.cell? ⟨gb, 2, none⟩ = some vi ∧ w'.cell? ⟨bu, ou + j, none⟩ = some (.int .i64 i0)) W' := fun W' hb => ⟨(hstj.b hb).out.cells.2.2.1, (hb.cell (p := ⟨bu, ou + j, none⟩) hbu').trans cu⟩
        have hd := (Below.refl wr.heap.size wr).drew
        refine late_begin (fun w' => w'.cell? ⟨gb, 2, none⟩ = some vi ∧ w'.cell? ⟨bu, ou + j, none⟩ = some (.int .i64 i0)) [9] (by kernel_rfl) ?_
        refine lateT 0 (some 113) rfl rfl (hS _ hd) ?_
        try simp only [Act.put, lA, lZ, lC]
        refine lateT 1 (some 114) rfl rfl (hS _ hd) ?_
        try simp only [Act.put, lA, lZ, lC]
        refine lateT 2 (some 115) rfl rfl (hS _ hd) ?_
        try simp only [Act.put, lA, lZ, lC]
        refine lateT 3 (some 116) rfl rfl (hS _ hd) ?_
        try simp only [Act.put, lA, lZ, lC]
        refine lateT 4 (some 117) rfl rfl (hS _ hd) ?_
        try simp only [Act.put, lA, lZ, lC]
        refine lateT 5 (some 118) rfl rfl (hS _ hd) ?_
        try simp only [Act.put, lA, lZ, lC]
        refine late_one (i := 6) rfl (by kernel_rfl) ?_
        intro K hK
        go_simp
        have ha := hd.alloc hd.size (.cells #[.int .i64 i0] 3)
        try show K _ _
        refine hK.out _ _ (Or.inr (hS _ ha)) ?_
        clear hK K
        try simp only [Act.put, lA, lZ, lC]
        refine late_one (i := 7) rfl (by kernel_rfl) ?_
        intro K hK
        have hA := hstj.b ha
        refine step_app1 cI 8 (.int .i64 0) 23 3 Tryz.underlying23 infoInt rfl rfl _ _ rfl W4.heap.size vi is i0 (.int .i64 i0) wr.heap.size rfl rfl hA.ids rfl rfl (cell_new0 wr.drew (.int .i64 i0) 3) (by omega) (by omega) hA.size ?_
        intro v5 w5 ho5 hg5 _
        obtain ⟨A5, c5, hv5, _⟩ := ho5.lat
        rw [List.length_append, List.length_singleton] at hv5
        subst hv5
        obtain ⟨kz, kst⟩ := hA.putIds ho5 hg5
        have hcu5 := hA.ids.cellLow hg5 (a := ⟨bu, ou + j, none⟩) hbuW ((ha.cell (p := ⟨bu, ou + j, none⟩) hbu').trans cu)
        have hTc5 := (hTc.below ha).far hg5 hA.ids.typed (by decide)
        have KK := Lib.hid (And.intro kst hTc5)
        clear kst ho5 hg5 hA hTc5
        try show K _ _
        refine hK.out _ _ (Or.inr ⟨kz.cells.2.2.1, hcu5⟩) ?_
        clear hK K
        try simp only [Act.put, lA, lZ, lC]
        refine lateT 8 (some 121) rfl rfl ⟨kz.cells.2.2.1, hcu5⟩ ?_
        try simp only [Act.put, lA, lZ, lC]
        refine late_one (i := 9) rfl (by kernel_rfl) ?_
        intro K hK
        obtain ⟨z0, z1, z2, z3, z4, z5⟩ := kz.cells
        have hfr := fun j => kz.frozen j
        go_simp
        try show K _ _
        refine hK.out _ _ (Or.inl (by decide)) ?_
        clear hK K
        try simp only [Act.put, lA, lZ, lC]
        refine late_done (by kernel_rfl) ?_ _
        obtain ⟨hst6, hTc6⟩ := KK.out
        have hTc7 := hTc6.far (kz.set2 (.slice A5 (is.length + 1) c5)).2 (fun k e => by cases e; exact kz.typed) (by decide)
        clear KK hTc6 z0 z1 z2 z3 z4 z5 hfr hS hd ha hstj hTc cu hcu5 kz
        generalize w5.setCell ⟨gb, 2, none⟩ (.slice A5 (is.length + 1) c5) = W6 at *
        have hxa := below_alloc W6 (.cells #[.slice (some ⟨gc, 0, none⟩) n n] 27)
        have hst7 := hst6.b hxa
        have hTc8 := hTc7.below hxa
        have q3 := hst6.out.cells.2.2.2.1
        clear hst6 hTc7 hxa
        go_wp2_with (at_builtin; refine wpList_app1 cV 24 (.slice none 0 0) 28 27 Tryz.underlying28 infoLU rfl rfl (.tmp 123) (.tmp 125) rfl W4.heap.size vg vals (.slice (some ⟨gc, 0, none⟩) n n) (.slice (some ⟨gc, 0, none⟩) n n) W6.heap.size rfl rfl hst7.g.own rfl rfl (cell_new0 W6 _ 27) (by omega) (by omega) hst7.size ?_; intro v8 w8 ho8 hg8 _; obtain ⟨A8, c8, hv8, _⟩ := ho8.lat; rw [List.length_append, List.length_singleton] at hv8; subst hv8; obtain ⟨kz8, kst8⟩ := hst7.putCol hTc8 HLL.out ho8 hg8; have K8 := Lib.hid kst8; clear kst8 ho8 hg8; obtain ⟨y0, y1, y2, y3, y4, y5⟩ := kz8.cells; have fr8 := (fun j => kz8.frozen j))
        go_roundw
        case rel => exact ⟨j + 1, _, _, _, is ++ [i0], ls ++ [l], by omega, by go_num, (by have h := gT_more HG.out (by rw [HI0.out.2]; exact HT.out) HAN.out; rw [HI0.out.2] at h; exact h), K8.out⟩
        case measure => simp [intOf]; omega
    ·obtain rfl : U.length = j := by omega
     have hlt' : decide (((U.length : Nat) : Int) < (U.length : Nat)) = false := by simp
     have hs3 : L3 wr gb n (.slice Avc n cvc) vi vg wr (.slice none 0 0) [] := ⟨Kept.refl _ _, hst.out, OwnG.nil _ _⟩
     have HST := Lib.hid hst
     have hsum5 := hst.sum
     have hB5 := hBr
     have k05 := k0r
     have hc5 := hcT.heap (fun x hx => hKp.typed (hcT.typed x hx) (fun b hb => by
      rcases List.mem_cons.1 hb with e | e
      ·exact ⟨_, e ▸ HTY.out.1, by decide⟩
      ·exact ⟨_, (List.mem_singleton.1 e) ▸ HTY.out.2, by decide⟩)) hKp.size
     have hsg5 := hst.out.typed
     clear hst hKp hBr k0r hltj hlt'
     generalize wr = W5 at *
     go_wp2_with fail
     go_loopw [24] (fun kk wr => ∃ (k : Nat) (vr : Value) (rs : List Nat), k ≤ n ∧ kk = .int .i64 (k : Nat) ∧ rT (offF a b n U U.length) k = some rs ∧ L3 W5 gb n (.slice Avc n cvc) vi vg wr vr rs) (fun kk _ => n - (intOf kk).toNat)
     case atStart => exact ⟨0, _, [], Nat.zero_le _, rfl, rfl, hs3⟩
     case round =>
      obtain ⟨k, vr, rs, hk, rfl, hrt, hst⟩ := hrel
      have HRT := Lib.hid hrt
      have hrl : rs.length ≤ 256 := by have := rT_len hrt; omega
      clear hrt hs3
      have hKp := hst.kept
      have hsr := hsum5.far hKp.grown (fun k e => by cases e; exact hsg5) (by decide) (by decide)
      have hBr := hB5.trans (hKp.below hB5.size (fun b hb => by rw [List.mem_singleton.1 hb]; omega))
      have k0r : UB wr w.heap.size _ _ _ _ _ _ := (hKp.block _ k05.lt (fun hm => by have := List.mem_singleton.1 hm; omega)).trans k05
      by_cases hlt : k < n
      ·have hlt' : (k : Int) < (n : Int) := by omega
       obtain ⟨x, x0, x1, x2, hx⟩ := hsr.at hlt
       have hro := round_r wr 1 _ _ x _ hx (by decide) (by decide)
       obtain ⟨u, ok, hrd⟩ : ∃ u ok, roundS 1 (some (offF a b n U U.length k)) = (u, ok) := ⟨_, _, rfl⟩
       rw [hrd] at hro
       have HRD := Lib.hid hrd
       have hncs := HNL.out
       clear hrd hx hsr
       go_wp2_with fail
       refine hro.mono ?_
       rintro e w4 ⟨rfl, hb4⟩
       clear hro x0 x1 x2
       cases ok with
       | false =>
        have k0 := k0r.below hb4
        have hB5 := hBr.trans (hb4.mono hBr.size)
        obtain ⟨o0, o1, o2, o3, o4, o5⟩ := UB.cells k0
        have hfr0 := fun j => UB.frozen k0 j
        have HE := Lib.hid (show plusZ a b n U = none from plusZ_r HT1.out HG.out (rT_none (rT_over HRT.out (by rw [HRD.out])) _ hlt))
        go_wp2_with fail
        obtain ⟨q1, q2⟩ := UB.put k0 (.int .i64 0) (.slice none 0 0) (.slice none 0 0) (.slice none 0 0) (.slice none 0 0) (.bool false)
        obtain ⟨c0, c1, c2, c3, c4, c5⟩ := q1.cells
        refine bodyPost_ret (v := .tuple #[.agg #[.int .i64 0, .slice none 0 0, .slice none 0 0, .slice none 0 0, .slice none 0 0, .bool false], .bool false]) (by simp [results, Tryz.results104, go_sem, c0, c1, c2, c3, c4, c5]) rfl ?_
        exact Or.inl ⟨HE.out, rfl, hB5.trans (below_row q2 (by omega) hB5.size)⟩
       | true =>
        have hst4 := hst.b hb4
        have hxa := below_alloc w4 (.cells #[.int .u64 (u : Nat)] 46)
        have hst5 := hst4.b hxa
        have q4 := hst4.out.cells.2.2.2.2.1
        clear hst hst4 hxa hb4 k0r hBr hKp
        go_wp2_with (at_builtin; refine wpList_app1 cU 8 (.int .u64 0) 27 46 Tryz.underlying27 infoU rfl rfl (.tmp 145) (.tmp 147) rfl W5.heap.size vr rs u _ w4.heap.size rfl rfl hst5.r rfl rfl (cell_new0 w4 _ 46) (by omega) (by omega) hst5.size ?_; intro v7 w7 ho7 hg7 _; obtain ⟨A7, c7, hv7, _⟩ := ho7.lat; rw [List.length_append, List.length_singleton] at hv7; subst hv7; obtain ⟨kz, kst⟩ := hst5.put ho7 hg7; have KK := Lib.hid kst; clear kst ho7 hg7 hst5 q4; obtain ⟨y0, y1, y2, y3, y4, y5⟩ := kz.cells; have fr8 := (fun j => kz.frozen j))
        go_roundw
        case rel => exact ⟨k + 1, _, _, by omega, by go_num, (by have h := rT_more HRT.out (by rw [HRD.out]); rw [HRD.out] at h; exact h), KK.out⟩
        case measure => simp [intOf]; omega
      ·obtain rfl : n = k := by omega
       have hlt' : decide ((n : Int) < (n : Nat)) = false := by simp
       have hz1 : ∀ k, some gb = some k → Typed W5 k 30 := fun k e => by cases e; exact hsg5
       have hcr := hc5.far hKp.grown hz1 (by decide)
       have hir := HST.out.ids.farR hKp.grown hz1 (by decide)
       have hgr := HST.out.g.farR hKp.grown hz1 (by decide) (by decide)
       obtain ⟨Ai, ci, rfl, _⟩ := hir.lat
       obtain ⟨Ag', cg, rfl, _⟩ := hgr.row
       obtain ⟨Ar', cr, rfl, _⟩ := hst.r.lat
       obtain ⟨q1, q2⟩ := k0r.put (.int .i64 (n : Int)) (.slice Avc n cvc) (.slice Ai is.length ci) (.slice Ag' ls.length cg) (.slice Ar' rs.length cr) (.bool false)
       have hz2 : ∀ k, some w.heap.size = some k → Typed wr k 30 := fun k e => by cases e; exact k0r.typed
       have HU := Lib.hid (show UT _ (.agg #[.int .i64 (n : Int), .slice Avc n cvc, .slice Ai is.length ci, .slice Ag' ls.length cg, .slice Ar' rs.length cr, .bool false]) ⟨(n : Int), l, is, ls, rs, false⟩ from ⟨_, _, _, _, _, _, _, _, _, _, _, _, _, by rw [addT_len HT1.out], rfl, hcr.far q2 hz2 (by decide), hir.farR q2 hz2 (by decide), hgr.farR q2 hz2 (by decide) (by decide), hst.r.farR q2 hz2 (by decide)⟩)
       have HBf := Lib.hid (hBr.trans (below_row q2 (by omega) hBr.size))
       have HE := Lib.hid (show plusZ a b n U = some (⟨(n : Int), l, is, ls, rs, false⟩ : ZD) from plusZ_yes HT1.out HG.out HRT.out)
       obtain ⟨g0, g1, g2, g3, g4, g5⟩ := hst.out.cells
       obtain ⟨o0, o1, o2, o3, o4, o5⟩ := k0r.cells
       have hfr0 := fun j => k0r.frozen j
       obtain ⟨c0, c1, c2, c3, c4, c5⟩ := q1.cells
       have HC := Lib.hid (And.intro c0 (And.intro c1 (And.intro c2 (And.intro c3 (And.intro c4 c5)))))
       clear c0 c1 c2 c3 c4 c5 q1 q2 hcr hir hgr hz1 hz2 hst hsr hKp hBr hrl
       go_wp2_with fail
       obtain ⟨c0, c1, c2, c3, c4, c5⟩ := HC.out
       refine bodyPost_ret (v := .tuple #[.agg #[.int .i64 (n : Int), .slice Avc n cvc, .slice Ai is.length ci, .slice Ag' ls.length cg, .slice Ar' rs.length cr, .bool false], .bool true]) (by simp [results, Tryz.results104, go_sem, c0, c1, c2, c3, c4, c5]) rfl ?_
       exact Or.inr ⟨_, _, HE.out, rfl, HU.out, HBf.out⟩
end Go.Proofs.YtpfbgenefjhcjaaGreatDoor
