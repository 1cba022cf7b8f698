/-
 zono.Support.
 zono.Bounds.
-/
import Derived.Test.YtpfbgenefjhcjaaGreatDoorPZoRea
import Derived.Test.YtpfbgenefjhcjaaGreatDoorPRounds
namespace Go.Proofs.YtpfbgenefjhcjaaGreatDoor
set_option linter.unusedVariables false
set_option linter.unusedSimpArgs false
open Go Go.RowKit Go.Shelf
attribute [local go_sem] Oper.semAt_some
set_option maxRecDepth 100000
theorem two_blocks (w : World) (o0 o1 : Obj) : (((w.alloc o0).alloc o1)).heap[w.heap.size]? = some o0 ∧ ((w.alloc o0).alloc o1).heap[w.heap.size + 1]? = some o1 ∧ ((w.alloc o0).alloc o1).heap.size = w.heap.size + 1 + 1 ∧ Below w.heap.size w ((w.alloc o0).alloc o1) := by
 have h0 := World.alloc_heap_new w o0
 have h1 := World.alloc_heap_new (w.alloc o0) o1
 simp only [World.size_alloc] at h1
 exact ⟨(Below.heap_alloc _ _ _ (by simp)).trans h0, h1, by simp, ((Below.refl _ w).alloc (Nat.le_refl _) _).alloc (by simp) _⟩
set_option maxHeartbeats 4000000 in
theorem support_no (w : World) (A B C D Ad : Option Addr) (kA kB kC kD cd : Nat) (z : ZD) (d : List Nat) (h : ZCells w z A B C D kA kB kC kD) (hk : ZOk z) (hd : FR w Ad d) (sd : Small d) (ld : d.length ≤ maxLen) (hno : (goodD z && rowD d z.n) = false) :
  Calls Tryz.prog 25 #[zval z A B C D kA kB kC kD, .slice Ad d.length cd] w fun e w' => e = .returned (.tuple #[.float .f64 0, .bool false]) ∧ Below w.heap.size w w' := by
 obtain ⟨f0, f1, f2, f3⟩ := two_blocks w (.cells #[.int .i64 z.n, .slice A z.c.length kA, .slice B z.ids.length kB, .slice C z.g.length kC, .slice D z.r.length kD, .bool z.bad] 26) (.cells #[.slice Ad d.length cd] 22)
 have hg := good_any _ _ z ⟨A, B, C, D, kA, kB, kC, kD, rfl, h.below f3⟩ hk
 unfold zval at hg ⊢
 generalize hgd : goodD z = gd at hg hno
 cases gd with
 | false =>
  clear hno h hk
  go_enter Tryz.func25, Tryz.ntmps25
  go_wp2_with fail
  refine hg.mono ?_
  rintro e w' ⟨rfl, hb⟩
  go_wp2_with fail
  refine bodyPost_ret (v := .tuple #[.float .f64 0, .bool false]) (by simp [results, Tryz.results25, go_sem]) rfl ?_
  exact ⟨rfl, f3.trans (hb.mono f3.size)⟩
 | true =>
  rw [Bool.true_and] at hno
  have hrow := fun w1 (hb : Below w.heap.size w w1) => row_any w1 Ad d.length cd d z.n (hd.below (Nat.le_refl _) hb) sd rfl ld
  rw [hno] at hrow
  clear hno h hk
  go_enter Tryz.func25, Tryz.ntmps25
  go_wp2_with fail
  refine hg.mono ?_
  rintro e w1 ⟨rfl, hb⟩
  rw [f2] at hb
  have hb1 := f3.trans (hb.mono (by omega))
  have hrow1 := hrow w1 hb1
  have g0 := (hb.block _ (by omega)).trans f0
  have g1 := (hb.block _ (by omega)).trans f1
  obtain ⟨x0, x1, x2, x3, x4, x5⟩ := cells6 g0
  have y1 := cell_one g1
  clear hb f0 f1 f2 f3 g0 g1 x1 x2 x3 x4 x5 hrow hg
  go_wp2_with fail
  refine hrow1.mono ?_
  rintro e w' ⟨rfl, rfl⟩
  go_wp2_with fail
  refine bodyPost_ret (v := .tuple #[.float .f64 0, .bool false]) (by simp [results, Tryz.results25, go_sem]) rfl ?_
  exact ⟨rfl, hb1⟩
theorem supp_bound {z : ZD} (h : Good z) (d : List Nat) (nd : ∀ u ∈ d, fexp u ≠ 2047) (N K M : Nat) (hN : N ≤ 256) (hK : K ≤ 1073741825) (hM : M ≤ 256) (pre : Int) (hpre : pre.natAbs ≤ K * (256 * PB)) :
  (dotZ d z.c N + pre + sumTo (fun i => prodZ (absF (d.getD i 0)) (z.r.getD i 0) 0) M).natAbs < LIM ∧ (dotZ d z.c N + pre).natAbs < LIM := by
 have h1 := dotZ_bound d z.c N nd h.numC
 have h3 : N * PB ≤ 256 * PB := Nat.mul_le_mul_right _ hN
 have h2 : ∀ i, (prodZ (absF (d.getD i 0)) (z.r.getD i 0) 0).natAbs ≤ PB := fun i => by
  have hnd := getD_num d nd i
  have hnr := getD_num z.r h.numR i
  refine Nat.le_of_lt (prodZ_lt _ _ ?_ hnr)
  have e : fexp (absF (d.getD i 0)) = fexp (d.getD i 0) := by unfold absF fexp; omega
  rw [e]; exact hnd
 have h4 := sumTo_bound (fun i => prodZ (absF (d.getD i 0)) (z.r.getD i 0) 0) PB M fun i _ => h2 i
 have h5 : M * PB ≤ 256 * PB := Nat.mul_le_mul_right _ hM
 have h6 : K * (256 * PB) ≤ 1073741825 * (256 * PB) := Nat.mul_le_mul_right _ hK
 refine ⟨few_lt _ 4398046511104 (Nat.le_refl _) ?_, few_lt _ 4398046511104 (Nat.le_refl _) ?_⟩
 ·generalize PB = T at *
  omega
 ·generalize PB = T at *
  omega
set_option maxHeartbeats 8000000 in
theorem support_yes (w : World) (A B C D Ad : Option Addr) (kA kB kC kD cd : Nat) (z : ZD) (d : List Nat) (h : ZCells w z A B C D kA kB kC kD) (hk : ZOk z) (hd : FR w Ad d) (sd : Small d) (hz : Good z) (hrd : rowD d z.n = true) :
  Calls Tryz.prog 25 #[zval z A B C D kA kB kC kD, .slice Ad d.length cd] w fun e w' => e = .returned (.tuple #[.float .f64 (roundS 1 (some (supZ z d))).1, .bool (roundS 1 (some (supZ z d))).2]) ∧ Below w.heap.size w w' := by
 obtain ⟨nd, ldn⟩ := (rowD_iff _ _).1 hrd
 have lc := hz.lenC
 have lr := hz.lenR
 have hn2 := hz.n2
 have hld : d.length ≤ 256 := by omega
 have hsup : supZ z d = dotZ d z.c d.length + sumTo (fun k => zabs (dotZ d (colZ z k) d.length)) z.g.length + sumTo (fun i => prodZ (absF (d.getD i 0)) (z.r.getD i 0) 0) d.length := by
  unfold supZ
  rw [← ldn, Int.toNat_natCast]
 have HSUP := Lib.hid hsup
 obtain ⟨f0, f1, f2, f3⟩ := two_blocks w (.cells #[.int .i64 z.n, .slice A z.c.length kA, .slice B z.ids.length kB, .slice C z.g.length kC, .slice D z.r.length kD, .bool z.bad] 26) (.cells #[.slice Ad d.length cd] 22)
 have hg := good_any _ _ z ⟨A, B, C, D, kA, kB, kC, kD, rfl, h.below f3⟩ hk
 rw [(goodD_iff z).2 hz] at hg
 have hrow := fun w1 (hb : Below w.heap.size w w1) => row_any w1 Ad d.length cd d z.n (hd.below (Nat.le_refl _) hb) sd rfl (by unfold maxLen; omega)
 rw [hrd] at hrow
 have hal := fun w1 (hb : Below w.heap.size w w1) => along_any w1 Ad A d.length z.c.length cd kA d z.c (hd.below (Nat.le_refl _) hb) (h.c.below (Nat.le_refl _) hb) rfl rfl (by omega) (by omega) sd hk.c nd hz.numC (by unfold maxLen; omega)
 clear hsup
 refine (callsIn_wide (n := 5)).1 ?_
 unfold zval at hg ⊢
 refine callsIn_of_wp_marks Tryz.func25 rfl trivial ?_ rfl
 simp only [Tryz.ntmps25, List.size_toArray, List.length_cons, List.length_nil, Nat.reduceAdd, Nat.reduceSub, Array.replicate_succ, Array.replicate_zero, List.push_toArray, List.append_toArray, List.nil_append, List.cons_append]
 refine wpIn_wide.2 ?_
 go_wp2_with fail
 refine hg.mono ?_
 rintro e w1 ⟨rfl, hb⟩
 rw [f2] at hb
 have hb1 := f3.trans (hb.mono (by omega))
 have hrow1 := hrow w1 hb1
 have hal1 := hal w1 hb1
 have hsz := hb.size
 have g0 := (hb.block _ (by omega)).trans f0
 have g1 := (hb.block _ (by omega)).trans f1
 obtain ⟨x0, x1, x2, x3, x4, x5⟩ := cells6 g0
 have y1 := cell_one g1
 clear hb f0 f1 f2 f3 hrow hg
 go_wp2_with fail
 refine hrow1.mono ?_
 rintro e w1' ⟨rfl, rfl⟩
 go_wp2_with fail
 refine hal1.mono ?_
 rintro e w2 ⟨p0, rfl, hp0, ha2, hb2⟩
 have hz2 : w.heap.size + 1 + 1 ≤ w1'.heap.size := by have := two_blocks w (.cells #[.int .i64 z.n, .slice A z.c.length kA, .slice B z.ids.length kB, .slice C z.g.length kC, .slice D z.r.length kD, .bool z.bad] 26) (.cells #[.slice Ad d.length cd] 22); omega
 have hz3 := hb2.size
 have hlp := ha2.lt
 obtain ⟨W3, hW3⟩ : ∃ W3, w2.alloc (.cells #[.pointer (some ⟨p0, 0, none⟩)] 112) = W3 := ⟨_, rfl⟩
 have k0 : W3.heap[w.heap.size]? = some (.cells #[.int .i64 z.n, .slice A z.c.length kA, .slice B z.ids.length kB, .slice C z.g.length kC, .slice D z.r.length kD, .bool z.bad] 26 (0, 0)) := by rw [← hW3]; exact (Below.heap_alloc _ _ _ (by omega)).trans ((hb2.block _ (by omega)).trans g0)
 have k1 : W3.heap[w.heap.size + 1]? = some (.cells #[.slice Ad d.length cd] 22 (0, 0)) := by rw [← hW3]; exact (Below.heap_alloc _ _ _ (by omega)).trans ((hb2.block _ (by omega)).trans g1)
 have k2 : W3.heap[w2.heap.size]? = some (.cells #[.pointer (some ⟨p0, 0, none⟩)] 112 (0, 0)) := by rw [← hW3]; exact World.alloc_heap_new w2 _
 have ha3 : AccIs W3 p0 (some (dotZ d z.c d.length)) := by rw [← hW3]; exact ha2.heap (Below.heap_alloc _ _ _ hlp)
 have hb3 : Below w.heap.size w W3 := by rw [← hW3]; exact (hb1.trans (hb2.mono hb1.size)).alloc (by omega) _
 have hs3 : W3.heap.size = w2.heap.size + 1 := by rw [← hW3]; simp
 clear x0 x1 x2 x3 x4 x5 y1 hal1 hrow1 hb2 ha2 g0 g1 hsz
 obtain ⟨x0, x1, x2, x3, x4, x5⟩ := cells6 k0
 go_wp2_with fail
 refine (columns_any _ _ _ _ _ _ _).mono ?_
 rintro e w' ⟨rfl, rfl⟩
 clear x0 x1 x2 x3 x4 x5
 go_wp2_with fail
 obtain ⟨ca, cc, hcol⟩ := cols_choose h.g
 have hx4 : (W3.alloc (.cells #[.int .i64 z.n, .slice A z.c.length kA, .slice B z.ids.length kB, .slice C z.g.length kC, .slice D z.r.length kD, .bool z.bad] 26)).heap[w2.heap.size + 1]? = some (.cells #[.int .i64 z.n, .slice A z.c.length kA, .slice B z.ids.length kB, .slice C z.g.length kC, .slice D z.r.length kD, .bool z.bad] 26 (0, 0)) := by rw [← hs3]; exact World.alloc_heap_new W3 _
 have hb4 : Below w.heap.size w (W3.alloc (.cells #[.int .i64 z.n, .slice A z.c.length kA, .slice B z.ids.length kB, .slice C z.g.length kC, .slice D z.r.length kD, .bool z.bad] 26)) := hb3.alloc (by omega) _
 have m0 : (W3.alloc (.cells #[.int .i64 z.n, .slice A z.c.length kA, .slice B z.ids.length kB, .slice C z.g.length kC, .slice D z.r.length kD, .bool z.bad] 26)).heap[w.heap.size]? = _ := (Below.heap_alloc _ _ _ (by omega)).trans k0
 have m1 : (W3.alloc (.cells #[.int .i64 z.n, .slice A z.c.length kA, .slice B z.ids.length kB, .slice C z.g.length kC, .slice D z.r.length kD, .bool z.bad] 26)).heap[w.heap.size + 1]? = _ := (Below.heap_alloc _ _ _ (by omega)).trans k1
 have m2 : (W3.alloc (.cells #[.int .i64 z.n, .slice A z.c.length kA, .slice B z.ids.length kB, .slice C z.g.length kC, .slice D z.r.length kD, .bool z.bad] 26)).heap[w2.heap.size]? = _ := (Below.heap_alloc _ _ _ (by omega)).trans k2
 have ma : AccIs (W3.alloc (.cells #[.int .i64 z.n, .slice A z.c.length kA, .slice B z.ids.length kB, .slice C z.g.length kC, .slice D z.r.length kD, .bool z.bad] 26)) p0 (some (dotZ d z.c d.length + sumP (m := z.g.length) (fun k => zabs (dotZ d (colZ z k) d.length)) [])) := by
  rw [sumP_nil, Int.add_zero]
  exact ha3.heap (Below.heap_alloc _ _ _ (by omega))
 have hs4 := World.size_alloc W3 (.cells #[.int .i64 z.n, .slice A z.c.length kA, .slice B z.ids.length kB, .slice C z.g.length kC, .slice D z.r.length kD, .bool z.bad] 26)
 generalize W3.alloc (.cells #[.int .i64 z.n, .slice A z.c.length kA, .slice B z.ids.length kB, .slice C z.g.length kC, .slice D z.r.length kD, .bool z.bad] 26) = W4 at *
 clear k0 k1 k2 ha3 hb3 hW3
 obtain ⟨bp, hbp⟩ : ∃ b, w2.heap.size = b := ⟨_, rfl⟩
 rw [hbp] at hx4 m2 hs3 hz3 ⊢
 refine (wpIn_wide (n := 5)).1 ?_
 refine wpIn_rangeFunc_ownF rfl (by decide) (gf := 116) (lb := #[.pointer (some ⟨bp + 1, 0, none⟩)]) rfl trivial (enters_of Tryz.func116 (by kernel_rfl) rfl)
  (columns_stops Fence.wide (5 - 1) trivial rfl (by decide) (bp + 1) z.g.length z ca cc A B C D kA kB kC kD w W4 hz.len rfl hz.cols h.ids (fun k hk => (hcol k hk).2) hb4 hx4)
  KB.trans (KB.put (by omega) (by omega)) (Below.refl _ _) (fun _ => rfl)
  (fun pre W => (AccIs W p0 (some (dotZ d z.c d.length + sumP (fun k => zabs (dotZ d (colZ z k) d.length)) pre)) ∧ W.heap[w.heap.size]? = some (.cells #[.int .i64 z.n, .slice A z.c.length kA, .slice B z.ids.length kB, .slice C z.g.length kC, .slice D z.r.length kD, .bool z.bad] 26 (0, 0)) ∧ W.heap[w.heap.size + 1]? = some (.cells #[.slice Ad d.length cd] 22 (0, 0)) ∧ W.heap[bp]? = some (.cells #[.pointer (some ⟨p0, 0, none⟩)] 112 (0, 0))) ∧ Below w.heap.size w W)
  (fun _ _ _ => False)
  (OwnFrom.and (Own.from (fun s A B row hs hg hr => ⟨acc_own hs.1 hg hr, heap_own hs.2.1 hg hr, heap_own hs.2.2.1 hg hr, heap_own hs.2.2.2 hg hr⟩) _) (ownFrom_below (Nat.le_refl _) (by omega)))
  (fun _ _ _ _ _ hs _ _ => hs)
  ⟨⟨ma, m0, m1, m2⟩, hb4⟩ ?a1 ?assign ?body ?done ?stop
 case assign =>
  intro l x W K hK
  unfold colV
  gi_wp2
  exact hK
 case body =>
  rintro l pre x W ⟨⟨ha, hq0, hq1, hq2⟩, hB⟩ hlt
  have y1 := cell_one hq1
  have hxk := hcol x.1 x.2
  have hnum := hz.colNum x.1
  have hgx : z.g[x.1]? = some (colZ z x.1) := by unfold colZ; rw [List.getD_eq_getElem?_getD, List.getElem?_eq_getElem x.2, Option.getD_some]
  have hlen := (hz.colG x.1 _ hgx).2
  have hsm := (hk.g _ (List.mem_of_getElem? hgx)).1
  have hal' := along_any W Ad (ca x.1) d.length (colZ z x.1).length cd (cc x.1) d (colZ z x.1) (hd.below (Nat.le_refl _) hB) (hxk.1.row.below (Nat.le_refl _) hB) rfl rfl (by omega) (by omega) sd hsm nd hnum (by unfold maxLen; omega)
  have hsum := sumP_bound (fun k => zabs (dotZ d (colZ z k) d.length)) (256 * PB) (fun k => by rw [zabs_natAbs]; exact Nat.le_trans (dotZ_bound d _ _ nd (hz.colNum k)) (Nat.mul_le_mul_right _ hld)) (pre ++ [x])
  have hclip := (supp_bound hz d nd d.length (pre ++ [x]).length 0 hld (by rw [List.length_append, List.length_singleton]; have := hz.cols; omega) (by omega) _ hsum).2
  have hac : W.heap[p0]? = _ := ha.1
  clear hsum hsm hlen hgx hnum hxk
  gi_wp2_with (refine ⟨trivial, ?_⟩; gi_at_call 72; refine CallsIn.mono (CallsIn.inRound l (callsIn_wide.2 hal')) ?_; rintro e W2 ⟨p, rfl, hp, haW2, hbW2⟩)
  have hlp : p0 < W.heap.size := (Array.getElem?_eq_some_iff.1 hac).1
  have hl0 := (Array.getElem?_eq_some_iff.1 hq0).1
  have hl1 := (Array.getElem?_eq_some_iff.1 hq1).1
  have hl2 := (Array.getElem?_eq_some_iff.1 hq2).1
  have hpc : W2.heap[p]? = _ := haW2.1
  have hy2 : ∀ W3, Below W.heap.size W W3 → W3.cell? ⟨bp, 0, none⟩ = some (.pointer (some ⟨p0, 0, none⟩)) := fun W3 hb => cell_one ((hb.block _ hl2).trans hq2)
  have habs := Abs_acc W2 p _ haW2
  gi_wp2_with (refine ⟨trivial, ?_⟩; gi_at_call 74; refine CallsIn.mono (CallsIn.inRound l (callsIn_wide.2 habs)) ?_; rintro e W3 ⟨rfl, haW3, hgW3⟩; have y2 := hy2 _ (hbW2.trans (below_row hgW3 hp hbW2.size)))
  have hbW3 : Below W.heap.size W W3 := hbW2.trans (below_row hgW3 hp hbW2.size)
  have n0 := (hbW3.block _ hl0).trans hq0
  have n1 := (hbW3.block _ hl1).trans hq1
  have n2 := (hbW3.block _ hl2).trans hq2
  have hac3 := (hbW3.block _ hlp).trans hac
  have hj := join_any W3 p0 p _ _ false (ha.heap (hbW3.block _ hlp)) haW3
  have hnew : joinS (some (dotZ d z.c d.length + sumP (fun k => zabs (dotZ d (colZ z k) d.length)) pre)) ((some (dotZ d (colZ z x.1) d.length)).map zabs) false = some (dotZ d z.c d.length + sumP (fun k => zabs (dotZ d (colZ z k) d.length)) (pre ++ [x])) := by
   show clip _ = _
   rw [sumP_snoc, ← Int.add_assoc] at hclip ⊢
   exact clip_some _ hclip
  rw [hnew] at hj
  clear hnew hclip hal' habs y1 ha hy2
  gi_wp2_with (refine ⟨trivial, ?_⟩; gi_at_call 69; refine CallsIn.mono (CallsIn.inRound l (callsIn_wide.2 hj)) ?_; rintro e W5 ⟨rfl, haW5, hgW5⟩)
  have hs5 := hbW3.size
  have hb5 : Below w.heap.size W W5 := (hbW3.mono hB.size).trans (below_row hgW5 (by omega) (Nat.le_trans hB.size hs5))
  have hk2 : KeepsOthers W W2 := KeepsOthers.of_grownBy (grown_of_below (row := none) hbW2) fun j o e ho => by cases e
  have hk3 : KeepsOthers W2 W3 := KeepsOthers.of_grownBy hgW3 fun j o e ho => by cases e; rw [hpc] at ho; cases ho; rfl
  have hk5 : KeepsOthers W3 W5 := KeepsOthers.of_grownBy hgW5 fun j o e ho => by cases e; rw [hac3] at ho; cases ho; rfl
  exact ⟨(hk2.trans hk3).trans hk5,
   ⟨hb5, fun hlt => (hgW5.block _ (by omega) (fun e => by cases e; omega)).trans (hbW3.block _ hlt)⟩,
   ⟨haW5, (hgW5.block _ (by omega) (fun e => by cases e; omega)).trans n0, (hgW5.block _ (by omega) (fun e => by cases e; omega)).trans n1, (hgW5.block _ (by omega) (fun e => by cases e; omega)).trans n2⟩, hB.trans hb5⟩
 case done =>
  rintro D' ys W hD rfl ⟨⟨ha, hq0, hq1, hq2⟩, hB⟩ hK
  rw [sumP_all] at ha
  clear hal ma m0 m1 m2 hx4 hcol
  have hrr := h.r
  have HN := Lib.hid (show supZ z d = _ from HSUP.out)
  have hbd := fun k (hk : k ≤ 256) => (supp_bound hz d nd d.length z.g.length k hld hz.cols hk (sumTo (fun k => zabs (dotZ d (colZ z k) d.length)) z.g.length) (sumTo_bound _ _ _ fun k _ => by rw [zabs_natAbs]; exact Nat.le_trans (dotZ_bound d _ _ nd (hz.colNum k)) (Nat.mul_le_mul_right _ hld))).1
  generalize dotZ d z.c d.length + sumTo (fun k => zabs (dotZ d (colZ z k) d.length)) z.g.length = base at *
  obtain ⟨x0, x1, x2, x3, x4, x5⟩ := cells6 hq0
  have hpp : W.heap[p0]? = _ := ha.1
  have hlp := (Array.getElem?_eq_some_iff.1 hpp).1
  have hl1 := (Array.getElem?_eq_some_iff.1 hq1).1
  have hl2 := (Array.getElem?_eq_some_iff.1 hq2).1
  have hlD := (Array.getElem?_eq_some_iff.1 hK).1
  clear x0 x1 x2 x3 x5 hpp
  go_wp2_with fail
  clear x4
  go_loopw [41] (fun kk wr => ∃ k : Nat, k ≤ 256 ∧ (k : Int) ≤ z.n ∧ kk = .int .i64 (k : Nat) ∧ AccIs wr p0 (some (base + sumTo (fun i => prodZ (absF (d.getD i 0)) (z.r.getD i 0) 0) k)) ∧ wr.heap[w.heap.size + 1]? = some (.cells #[.slice Ad d.length cd] 22 (0, 0)) ∧ wr.heap[bp]? = some (.cells #[.pointer (some ⟨p0, 0, none⟩)] 112 (0, 0)) ∧ wr.heap[D']? = some (.deferred (some [])) ∧ Below w.heap.size w wr) (fun kk _ => 256 - (intOf kk).toNat)
  case atStart => exact ⟨0, by omega, by omega, rfl, by rw [show sumTo _ 0 = 0 from rfl, Int.add_zero]; exact ha, hq1, hq2, hK, hB⟩
  case round =>
   obtain ⟨k, hk', hkn, rfl, ha, hq1, hq2, hK, hB⟩ := hrel
   by_cases hlt : (k : Int) < z.n
   ·obtain ⟨v, hv⟩ := get_some d k (by omega)
    obtain ⟨u, hu⟩ := get_some z.r k (by omega)
    obtain ⟨br, or_, rfl, hbr, hcr⟩ := hrr.at hB k u hu
    obtain ⟨b', o', rfl, hbb', hc'⟩ := hd.at hB k v hv
    have hcr' : wr.cell? ⟨br, or_ + k, none⟩ = some (.float .f64 u) := hcr
    have hcd' : wr.cell? ⟨b', o' + k, none⟩ = some (.float .f64 v) := hc'
    have hkd : (k : Int) < d.length := by omega
    have y1 := cell_one hq1
    have y2 := cell_one hq2
    have hv64 := sd.at k v hv
    have hpr := prod_any wr.drew p0 (absF v) u 0 _ (ha.heap (w1 := wr.drew) rfl) (absF_lt v) (hk.r.at k u hu)
    have hgd := gnum _ _ _ hv
    have hgu := gnum _ _ _ hu
    have hbk := hbd (k + 1) (by omega)
    have hstep : base + sumTo (fun i => prodZ (absF (d.getD i 0)) (z.r.getD i 0) 0) k + prodZ (absF v) u 0 = base + sumTo (fun i => prodZ (absF (d.getD i 0)) (z.r.getD i 0) 0) (k + 1) := by
     show _ = base + (sumTo _ k + prodZ (absF (d.getD k 0)) (z.r.getD k 0) 0)
     rw [hgd, hgu, Int.add_assoc]
    rw [prodS_good _ (absF v) u (by rw [absF_fexp v hv64]; exact nd v (List.mem_of_getElem? hv)) (hz.numR u (List.mem_of_getElem? hu)) (by rw [hstep]; exact hbk), hstep] at hpr
    have habs := Abs_any v hv64 wr.drew
    have hlp := ha.lt
    have hl1 := (Array.getElem?_eq_some_iff.1 hq1).1
    have hl2 := (Array.getElem?_eq_some_iff.1 hq2).1
    have hlD := (Array.getElem?_eq_some_iff.1 hK).1
    clear hbk hstep hgd hgu hcr hc' hbd
    go_wp2_with fail
    go_still_tail 7, (by kernel_rfl)
    still_call habs
    repeat still_step
    refine wpStill_nil ?_
    change wpList _ _ _ _ _ wr.drew
    go_wp2_with fail
    refine hpr.mono ?_
    rintro e w5 ⟨rfl, ha5, hg5⟩
    have hb5 : Below w.heap.size w w5 := hB.drew.trans (below_row hg5 (by omega) hB.size)
    have n1 := (hg5.block (w.heap.size + 1) hl1 (fun e => by cases e; omega)).trans hq1
    have n2 := (hg5.block bp hl2 (fun e => by cases e; omega)).trans hq2
    have nD := (hg5.block D' hlD (fun e => by cases e; omega)).trans hK
    go_wp2_with fail
    go_roundw
    case rel => exact ⟨k + 1, by omega, by omega, by go_num, ha5, n1, n2, nD, hb5⟩
    case measure => simp [intOf]; omega
   ·obtain rfl : k = d.length := by omega
    have hlt' : decide (((d.length : Nat) : Int) < z.n) = false := by simp; omega
    rw [← HSUP.out] at ha
    have y2 := cell_one hq2
    have hr := round_any wr p0 1 _ ha (by decide) (by decide)
    clear hbd
    go_wp2_with fail
    refine hr.mono ?_
    rintro e w5 ⟨rfl, hb5⟩
    go_wp2_with fail
    have hK5 := (hb5.block D' (Array.getElem?_eq_some_iff.1 hK).1).trans hK
    refine ⟨by simp, .inl ⟨_, _, rfl, run_takeDeferred hK5, ?_⟩⟩
    refine ⟨.tuple #[.float .f64 (roundS 1 (some (supZ z d))).1, .bool (roundS 1 (some (supZ z d))).2], by simp [results, Tryz.results25, go_sem], rfl, ?_⟩
    exact (hB.trans (hb5.mono hB.size)).trans (belowK_b (w := w) (Nat.le_refl _) w5 D' _ _ (by omega) hK5 rfl rfl)
 case stop =>
  rintro D c pre W _ _ h _
  exact h.elim
theorem support_any (w : World) (v : Value) (z : ZD) (Ad : Option Addr) (cd : Nat) (d : List Nat) (h : ZIs w v z) (hk : ZOk z) (hd : FR w Ad d) (sd : Small d) (ld : d.length ≤ maxLen) :
  Calls Tryz.prog 25 #[v, .slice Ad d.length cd] w fun e w' => e = .returned (.tuple #[.float .f64 (supD z d).1, .bool (supD z d).2]) ∧ Below w.heap.size w w' := by
 obtain ⟨A, B, C, D, kA, kB, kC, kD, rfl, hc⟩ := h
 unfold supD
 cases hgr : goodD z && rowD d z.n with
 | false => exact support_no w A B C D Ad kA kB kC kD cd z d hc hk hd sd ld hgr
 | true =>
  rw [Bool.and_eq_true] at hgr
  exact support_yes w A B C D Ad kA kB kC kD cd z d hc hk hd sd ((goodD_iff z).1 hgr.1) hgr.2
end Go.Proofs.YtpfbgenefjhcjaaGreatDoor
namespace Go.Proofs.YtpfbgenefjhcjaaGreatDoor
set_option linter.unusedVariables false
set_option linter.unusedSimpArgs false
open Go Go.RowKit
set_option maxRecDepth 100000
theorem run_store_flt (P : Program) (w : World) (a : Addr) (m : Mode) (k : FloatKind) (b : Nat) : (store a (.float k b) m).run P w = stored P w a (.float k b) m := run_store P w a _ m rfl
attribute [local go_sem] run_store_flt
theorem info_span : (Tryz.prog.info? 74).map (fun i => (i.zero, i.size, i.bytes)) = some (some (.agg #[.float .f64 0, .float .f64 0, .bool false]), 3, 24) := by kernel_rfl
theorem make_spans (n : Nat) (hn : n ≤ 256) (w : World) : ∃ cs : Array Value, cs.size = n * 3 ∧
  (Instr.makeSlice 41 (.int .i64 (n : Int)) (.int .i64 (n : Int))).run Tryz.prog w = .ok (.slice (some ⟨w.heap.size, 0, none⟩) n n) (w.alloc (.cells cs 74)) := by
 obtain ⟨i0, hi0, hz0, hz1, hz2⟩ := info_parts info_span
 have hr := run_make (P := Tryz.prog) w 41 74 i0 _ Tryz.underlying41 hi0 hz0 .i64 .i64 n n (by omega) (Int.le_refl _) (by rw [hz2]; omega) (by omega)
 simp only [Int.toNat_natCast] at hr
 exact ⟨_, by rw [size_madeCells, hz1], hr⟩
/-- A row of spans under way: the first of them are laid. -/
def SpB (w : World) (g n : Nat) (ss : List SD) : Prop := ∃ cs : Array Value, w.heap[g]? = some (.cells cs 74 (0, 0)) ∧ cs.size = n * 3 ∧
 ∀ (j : Nat) (s : SD), ss[j]? = some s → cs[j * 3]? = some (.float .f64 s.lo) ∧ cs[j * 3 + 1]? = some (.float .f64 s.hi) ∧ cs[j * 3 + 2]? = some (.bool s.bad)
theorem SpB.below {w w1 : World} {g n : Nat} {ss : List SD} (h : SpB w g n ss) (hb : Below w.heap.size w w1) : SpB w1 g n ss := by
 obtain ⟨cs, h1, h2, h3⟩ := h
 exact ⟨cs, (hb.block g (Array.getElem?_eq_some_iff.1 h1).1).trans h1, h2, h3⟩
theorem SpB.at {w : World} {g n k : Nat} {ss : List SD} (h : SpB w g n ss) (hk : k < n) (i : Nat) (hi : i < 3) : (∃ v, w.cell? ⟨g, k * 3 + i, none⟩ = some v) ∧ w.frozen? ⟨g, k * 3 + i, none⟩ = false := by
 obtain ⟨cs, h1, h2, h3⟩ := h
 refine ⟨⟨cs[k * 3 + i]'(by omega), ?_⟩, frozen_of_row w g _ _ _ h1⟩
 rw [cell_of_row _ _ _ _ _ _ h1]
 exact Array.getElem?_eq_getElem _
theorem SpB.set {w : World} {g n k : Nat} {ss : List SD} (h : SpB w g n ss) (hk : k < n) (hl : ss.length = k ∨ ss.length = k + 1) (s : SD) :
  SpB (((w.setCell ⟨g, k * 3, none⟩ (.float .f64 s.lo)).setCell ⟨g, k * 3 + 1, none⟩ (.float .f64 s.hi)).setCell ⟨g, k * 3 + 2, none⟩ (.bool s.bad)) g n (ss.take k ++ [s]) ∧
  w.grownBy (((w.setCell ⟨g, k * 3, none⟩ (.float .f64 s.lo)).setCell ⟨g, k * 3 + 1, none⟩ (.float .f64 s.hi)).setCell ⟨g, k * 3 + 2, none⟩ (.bool s.bad)) (some g) := by
 obtain ⟨cs, h1, h2, h3⟩ := h
 have e1 : (w.setCell ⟨g, k * 3, none⟩ (.float .f64 s.lo)).heap[g]? = _ := heap_setCell_same w g _ _ _ _ h1
 have e2 : ((w.setCell ⟨g, k * 3, none⟩ (.float .f64 s.lo)).setCell ⟨g, k * 3 + 1, none⟩ (.float .f64 s.hi)).heap[g]? = _ := heap_setCell_same _ g _ _ _ _ e1
 have e3 : (((w.setCell ⟨g, k * 3, none⟩ (.float .f64 s.lo)).setCell ⟨g, k * 3 + 1, none⟩ (.float .f64 s.hi)).setCell ⟨g, k * 3 + 2, none⟩ (.bool s.bad)).heap[g]? = _ := heap_setCell_same _ g _ _ _ _ e2
 refine ⟨⟨_, e3, by simp [h2], fun j t ht => ?_⟩, grown_set (grown_set (grown_set (grown_refl w (some g)) _ _) _ _) _ _⟩
 have hlen : (ss.take k).length = k := by rw [List.length_take]; omega
 rcases Nat.lt_or_ge j k with hj | hj
 ·rw [List.getElem?_append_left (by omega), List.getElem?_take_of_lt hj] at ht
  obtain ⟨c1, c2, c3⟩ := h3 j t ht
  simp only [Array.getElem?_setIfInBounds, Array.size_setIfInBounds]
  refine ⟨?_, ?_, ?_⟩
  ·rw [if_neg (by omega), if_neg (by omega), if_neg (by omega)]; exact c1
  ·rw [if_neg (by omega), if_neg (by omega), if_neg (by omega)]; exact c2
  ·rw [if_neg (by omega), if_neg (by omega), if_neg (by omega)]; exact c3
 ·have hj' : j = k := by
   have := (List.getElem?_eq_some_iff.1 ht).1
   rw [List.length_append, List.length_singleton] at this
   omega
  subst hj'
  rw [List.getElem?_append_right (by omega), hlen, Nat.sub_self] at ht
  cases ht
  simp only [Array.getElem?_setIfInBounds, Array.size_setIfInBounds]
  refine ⟨?_, ?_, ?_⟩
  ·simp; omega
  ·simp; omega
  ·simp; omega
/-- A list of spans, as it was handed back. -/
def SpR (w : World) (A : Option Addr) (ss : List SD) : Prop := ∀ (j : Nat) (s : SD), ss[j]? = some s → ∃ g : Nat, A = some ⟨g, 0, none⟩ ∧ g < w.heap.size ∧ w.cell? ⟨g, j * 3, none⟩ = some (.float .f64 s.lo) ∧ w.cell? ⟨g, j * 3 + 1, none⟩ = some (.float .f64 s.hi) ∧ w.cell? ⟨g, j * 3 + 2, none⟩ = some (.bool s.bad)
theorem SpB.row {w : World} {g n : Nat} {ss : List SD} (h : SpB w g n ss) : SpR w (some ⟨g, 0, none⟩) ss := fun j s hs => by
 obtain ⟨cs, h1, h2, h3⟩ := h
 obtain ⟨c1, c2, c3⟩ := h3 j s hs
 exact ⟨g, rfl, (Array.getElem?_eq_some_iff.1 h1).1, (cell_of_row _ _ _ _ _ _ h1).trans c1, (cell_of_row _ _ _ _ _ _ h1).trans c2, (cell_of_row _ _ _ _ _ _ h1).trans c3⟩
theorem SpR.below {w w1 : World} {A : Option Addr} {ss : List SD} (h : SpR w A ss) (hb : Below w.heap.size w w1) : SpR w1 A ss := fun j s hs => by
 obtain ⟨g, h1, h2, h3, h4, h5⟩ := h j s hs
 exact ⟨g, h1, Nat.lt_of_lt_of_le h2 hb.size, (hb.cell (p := ⟨g, j * 3, none⟩) h2).trans h3, (hb.cell (p := ⟨g, j * 3 + 1, none⟩) h2).trans h4, (hb.cell (p := ⟨g, j * 3 + 2, none⟩) h2).trans h5⟩
def TellsSp (w : World) (ss : List SD) (e : Ending) (w' : World) : Prop := ∃ A cap, e = .returned (.slice A ss.length cap) ∧ SpR w' A ss ∧ ss.length ≤ cap ∧ cap ≤ 256 ∧ Below w.heap.size w w'
def bndL (z : ZD) (k : Nat) : List SD := (List.range k).map (bndD z)
theorem bndL_length (z : ZD) (k : Nat) : (bndL z k).length = k := by unfold bndL; simp
theorem bndL_succ (z : ZD) (k : Nat) : bndL z (k + 1) = bndL z k ++ [bndD z k] := by unfold bndL; rw [List.range_succ, List.map_append]; rfl
set_option maxHeartbeats 8000000 in
theorem bounds_yes (w : World) (A B C D : Option Addr) (kA kB kC kD : Nat) (z : ZD) (h : ZCells w z A B C D kA kB kC kD) (hk : ZOk z) (hz : Good z) (n : Nat) (hn : (n : Int) = z.n) :
  Calls Tryz.prog 24 #[zval z A B C D kA kB kC kD] w fun e w' => TellsSp w (bndL z n) e w' := by
 have hn2 := hz.n2
 have HN := Lib.hid hn
 have hlc : n = z.c.length := by have := hz.lenC; omega
 have HLC := Lib.hid hlc
 have hb1 := below_alloc w (.cells #[.int .i64 z.n, .slice A z.c.length kA, .slice B z.ids.length kB, .slice C z.g.length kC, .slice D z.r.length kD, .bool z.bad] 26)
 have hg := good_any _ _ z ⟨A, B, C, D, kA, kB, kC, kD, rfl, h.below hb1⟩ hk
 rw [(goodD_iff z).2 hz] at hg
 have hx := heap_alloc_new w (.cells #[.int .i64 z.n, .slice A z.c.length kA, .slice B z.ids.length kB, .slice C z.g.length kC, .slice D z.r.length kD, .bool z.bad] 26)
 have hs1 := World.size_alloc w (.cells #[.int .i64 z.n, .slice A z.c.length kA, .slice B z.ids.length kB, .slice C z.g.length kC, .slice D z.r.length kD, .bool z.bad] 26)
 have hmk := make_spans n (by omega)
 have hn256 : n ≤ 256 := by omega
 clear hn hlc hn2
 unfold zval at hg ⊢
 go_enter Tryz.func24, Tryz.ntmps24
 go_wp2_with fail
 refine hg.mono ?_
 rintro e w1 ⟨rfl, hb⟩
 have g0 := (hb.block w.heap.size (by omega)).trans hx
 have hb2 := hb1.trans (hb.mono hb1.size)
 have hsz := hb.size
 rw [hs1] at hsz
 obtain ⟨cs, hcs, hmk1⟩ := hmk w1
 have hzn : z.n = (n : Int) := HN.out.symm
 rw [hzn] at g0
 obtain ⟨x0, x1, x2, x3, x4, x5⟩ := cells6 g0
 clear hmk hx hg hb1 hb hs1 x1 x2 x3 x4 x5
 go_wp2_with fail
 have k0 : (w1.alloc (.cells cs 74)).heap[w.heap.size]? = _ := (Below.heap_alloc _ _ _ (by omega)).trans g0
 have ks : SpB (w1.alloc (.cells cs 74)) w1.heap.size n (bndL z 0) := ⟨cs, World.alloc_heap_new _ _, hcs, fun j s hs => by simp [bndL] at hs⟩
 have kb : Below w.heap.size w (w1.alloc (.cells cs 74)) := hb2.alloc (by omega) _
 clear x0 g0 hmk1
 generalize w1.alloc (.cells cs 74) = W2 at *
 obtain ⟨g, hg⟩ : ∃ g, w1.heap.size = g := ⟨_, rfl⟩
 rw [hg] at hsz ks ⊢
 go_loopw [21] (fun kk wr => ∃ k : Nat, k ≤ n ∧ kk = .int .i64 (k : Nat) ∧ wr.heap[w.heap.size]? = some (.cells #[.int .i64 (n : Nat), .slice A z.c.length kA, .slice B z.ids.length kB, .slice C z.g.length kC, .slice D z.r.length kD, .bool z.bad] 26 (0, 0)) ∧ SpB wr g n (bndL z k) ∧ Below w.heap.size w wr) (fun kk _ => n - (intOf kk).toNat)
 case atStart => exact ⟨0, by omega, rfl, k0, ks, kb⟩
 case round =>
  obtain ⟨k, hk', rfl, h0, hs, hb⟩ := hrel
  clear k0 ks kb
  by_cases hlt : k < n
  ·have hlt' : (k : Int) < n := by omega
   obtain ⟨x0, x1, x2, x3, x4, x5⟩ := cells6 h0
   have hr := reach_any wr A B C D kA kB kC kD z k (h.below hb) hk hz (by rw [hzn]; exact hlt')
   unfold zval at hr
   rw [hzn] at hr
   have hl0 := (Array.getElem?_eq_some_iff.1 h0).1
   obtain ⟨u, hu⟩ := get_some z.c k (by rw [← HLC.out]; exact hlt)
   obtain ⟨bc, oc, rfl, hbc, hcc⟩ := h.c.at hb k u hu
   have hu64 := hk.c.at k u hu
   have hnu := hz.numC u (List.mem_of_getElem? hu)
   have hkc : (k : Int) < z.c.length := by rw [← HLC.out]; exact hlt'
   clear hzn
   go_wp2_with fail
   refine hr.mono ?_
   rintro e w3 ⟨p, rfl, hp, hap, hb3⟩
   have hlp := hap.lt
   clear x0 x1 x2 x3 x4 x5 hr
   go_wp2_with fail
   refine (new_any w3).mono ?_
   rintro e w4 ⟨rfl, rfl⟩
   have hb4 : Below wr.heap.size wr (w3.alloc (.cells (accCells 0 false) 163)) := hb3.alloc hb3.size _
   have hap4 : AccIs (w3.alloc (.cells (accCells 0 false) 163)) p (some (reachZ z k)) := hap.heap (Below.heap_alloc _ _ _ hlp)
   have haq4 : AccIs (w3.alloc (.cells (accCells 0 false) 163)) w3.heap.size (some 0) := acc_zero (World.alloc_heap_new _ _)
   have hs4 := World.size_alloc w3 (.cells (accCells 0 false) 163)
   have hs3 := hb3.size
   obtain ⟨q, hq⟩ : ∃ q, w3.heap.size = q := ⟨_, rfl⟩
   rw [hq] at haq4 hs3 hs4 hlp ⊢
   clear hap hb3 hq
   generalize w3.alloc (.cells (accCells 0 false) 163) = w4 at *
   obtain ⟨x0, x1, x2, x3, x4, x5⟩ := cells6 ((hb4.block _ hl0).trans h0)
   have hcu : w4.cell? ⟨bc, oc + k, none⟩ = some (.float .f64 u) := (hb4.cell (p := ⟨bc, oc + k, none⟩) (by have := hb.size; show bc < _; omega)).trans hcc
   have hadd := add_any w4 q u _ haq4 hu64
   rw [addS_some 0 u hnu (by rw [Int.zero_add]; exact few_ltF _ 1 (by decide) (by have := fz_lt u hnu; omega)), Int.zero_add] at hadd
   clear haq4 hcc x0 x2 x3 x4 x5
   go_wp2_with fail
   refine hadd.mono ?_
   rintro e w5 ⟨rfl, haq5, hg5⟩
   have hap5 := hap4.grown hg5 (fun e => by cases e; omega)
   have hb5 := hb4.trans (below_row hg5 hs3 (by omega))
   have hs5 := hg5.size
   clear hadd x1 hcu hap4 hb4 hg5
   go_wp2_with fail
   refine (copy_any w5 q _ haq5).mono ?_
   rintro e w6 ⟨rfl, har6, hb6'⟩
   have hap6 := hap5.below hap5.lt hb6'
   have haq6 := haq5.below haq5.lt hb6'
   have hb6 := hb5.trans (hb6'.mono hb5.size)
   have hs6 := hb6'.size
   obtain ⟨r, hr⟩ : ∃ r, w5.heap.size = r := ⟨_, rfl⟩
   rw [hr] at har6 hs5 hs6 ⊢
   clear hap5 haq5 hb5 hb6' hr
   have hlr := har6.lt
   have hrb := reach_bound hz k z.g.length (Nat.le_refl _)
   have hcol := hz.cols
   have hfu := fz_lt u hnu
   have hgu := gnum _ _ _ hu
   have hlim : ∀ x : Int, x.natAbs ≤ (fz u).natAbs + (reachZ z k).natAbs → x.natAbs < LIM := fun x hx => by
    refine few_ltF _ (2 + z.g.length) (by omega) ?_
    have e : (2 + z.g.length) * FB = FB + (1 + z.g.length) * FB := by rw [show 2 + z.g.length = 1 + (1 + z.g.length) by omega, Nat.add_mul 1, Nat.one_mul]
    have hrb' : (reachZ z k).natAbs ≤ (1 + z.g.length) * FB := hrb
    rw [e]
    generalize (1 + z.g.length) * FB = T at *
    omega
   have hj1 := join_any w6 r p _ _ false har6 hap6
   have e1 : joinS (some (fz u)) (some (reachZ z k)) false = some (fz u + reachZ z k) := clip_some (fz u + reachZ z k) (hlim (fz u + reachZ z k) (Int.natAbs_add_le _ _))
   have e2 : joinS (some (fz u)) (some (reachZ z k)) true = some (fz u - reachZ z k) := clip_some (fz u - reachZ z k) (hlim (fz u - reachZ z k) (by rw [Int.sub_eq_add_neg]; exact Nat.le_trans (Int.natAbs_add_le _ _) (by rw [Int.natAbs_neg]; exact Nat.le_refl _)))
   rw [e1] at hj1
   have hbd : bndD z k = spanD (fz u - reachZ z k) (fz u + reachZ z k) := by unfold bndD; rw [hgu]
   have HBD := Lib.hid hbd
   clear hrb hcol hfu hlim e1 hbd hgu
   go_wp2_with fail
   refine hj1.mono ?_
   rintro e w7 ⟨rfl, har7, hg7⟩
   have hap7 := hap6.grown hg7 (fun e => by cases e; omega)
   have haq7 := haq6.grown hg7 (fun e => by cases e; omega)
   have hs7 := hg7.size
   have hb7 := hb6.trans (below_row hg7 (by omega) (by omega))
   have hj2 := join_any w7 q p _ _ true haq7 hap7
   rw [e2] at hj2
   clear hj1 har6 hap6 haq6 hb6 hg7 e2
   go_wp2_with fail
   refine hj2.mono ?_
   rintro e w8 ⟨rfl, haq8, hg8⟩
   have har8 := har7.grown hg8 (fun e => by cases e; omega)
   have hs8 := hg8.size
   have hb8 := hb7.trans (below_row hg8 (by omega) (by omega))
   have hr1 := round_any w8 q 2 _ haq8 (by decide) (by decide)
   clear hj2 har7 hap7 haq7 hb7 hg8
   go_wp2_with fail
   refine hr1.mono ?_
   rintro e w9 ⟨rfl, hb9'⟩
   have har9 := har8.below har8.lt hb9'
   have hb9 := hb8.trans (hb9'.mono hb8.size)
   have hr2 := round_any w9 r 1 _ har9 (by decide) (by decide)
   clear hr1 haq8 har8 hb8
   go_wp2_with fail
   refine hr2.mono ?_
   rintro e wA ⟨rfl, hbA'⟩
   have hbA := hb9.trans (hbA'.mono hb9.size)
   have hsA := hs.below hbA
   clear hr2 har9 hb9 hbA'
   unfold spanD at HBD
   generalize roundS 2 (some (fz u - reachZ z k)) = rl at *
   generalize roundS 1 (some (fz u + reachZ z k)) = rh at *
   obtain ⟨lo, okl⟩ := rl
   obtain ⟨hi, okh⟩ := rh
   have n0 := (hbA.block _ hl0).trans h0
   have hrow := (grown_of_below (row := some g) hbA)
   obtain ⟨⟨v0, c0⟩, z0⟩ := hsA.at hlt 0 (by omega)
   obtain ⟨⟨v1, c1⟩, z1⟩ := hsA.at hlt 1 (by omega)
   obtain ⟨⟨v2, c2⟩, z2⟩ := hsA.at hlt 2 (by omega)
   rw [Nat.add_zero] at c0 z0
   obtain ⟨s1, g1⟩ := hsA.set hlt (Or.inl (bndL_length z k)) ⟨lo, hi, false⟩
   rw [List.take_of_length_le (by rw [bndL_length]; omega)] at s1
   obtain ⟨s2, g2⟩ := s1.set hlt (Or.inr (by rw [List.length_append, bndL_length]; rfl)) ⟨0, 0, true⟩
   rw [List.take_append_of_le_length (by rw [bndL_length]; exact Nat.le_refl _), List.take_of_length_le (by rw [bndL_length]; exact Nat.le_refl _)] at s2
   have hbW := hb.trans (hbA.mono hb.size)
   have hl0' := (Array.getElem?_eq_some_iff.1 n0).1
   cases okl with
   | false =>
    go_wp2_with fail
    refine ⟨⟨k + 1, by omega, by go_num, ?_, ?_, ?_⟩, by simp [intOf]; omega⟩
    ·exact (g2.block _ (by have := g1.size; omega) (fun e => by cases e; omega)).trans ((g1.block _ hl0' (fun e => by cases e; omega)).trans n0)
    ·rw [bndL_succ, HBD.out]; exact s2
    ·exact hbW.trans ((below_row g1 (by omega) hbW.size).trans (below_row g2 (by omega) (by have := g1.size; have := hbW.size; omega)))
   | true =>
    cases okh with
    | false =>
     go_wp2_with fail
     refine ⟨⟨k + 1, by omega, by go_num, ?_, ?_, ?_⟩, by simp [intOf]; omega⟩
     ·exact (g2.block _ (by have := g1.size; omega) (fun e => by cases e; omega)).trans ((g1.block _ hl0' (fun e => by cases e; omega)).trans n0)
     ·rw [bndL_succ, HBD.out]; exact s2
     ·exact hbW.trans ((below_row g1 (by omega) hbW.size).trans (below_row g2 (by omega) (by have := g1.size; have := hbW.size; omega)))
    | true =>
     go_wp2_with fail
     refine ⟨⟨k + 1, by omega, by go_num, ?_, ?_, ?_⟩, by simp [intOf]; omega⟩
     ·exact (g1.block _ hl0' (fun e => by cases e; omega)).trans n0
     ·rw [bndL_succ, HBD.out]; exact s1
     ·exact hbW.trans (below_row g1 (by omega) hbW.size)
  ·obtain rfl : k = n := by omega
   have hlt' : decide ((k : Int) < (k : Nat)) = false := by simp
   go_wp2_with fail
   go_ret
   exact ⟨_, k, by rw [bndL_length]; rfl, hs.row, by rw [bndL_length]; exact Nat.le_refl _, hn256, hb⟩
theorem bounds_any (w : World) (v : Value) (z : ZD) (h : ZIs w v z) (hk : ZOk z) :
  Calls Tryz.prog 24 #[v] w fun e w' => TellsSp w (bndsD z) e w' := by
 obtain ⟨A, B, C, D, kA, kB, kC, kD, rfl, hc⟩ := h
 unfold bndsD
 cases hg : goodD z with
 | true =>
  have hz := (goodD_iff z).1 hg
  rw [if_pos rfl]
  exact bounds_yes w A B C D kA kB kC kD z hc hk hz z.n.toNat (by have := hz.n1; omega)
 | false =>
  have hb1 := below_alloc w (.cells #[.int .i64 z.n, .slice A z.c.length kA, .slice B z.ids.length kB, .slice C z.g.length kC, .slice D z.r.length kD, .bool z.bad] 26)
  have hgd := good_any _ _ z ⟨A, B, C, D, kA, kB, kC, kD, rfl, hc.below hb1⟩ hk
  rw [hg] at hgd
  have HB := Lib.hid hb1
  rw [if_neg (by decide)]
  unfold zval at hgd ⊢
  clear hc hk hb1 hg
  go_enter Tryz.func24, Tryz.ntmps24
  go_wp2_with fail
  refine hgd.mono ?_
  rintro e w1 ⟨rfl, hb⟩
  go_wp2_with fail
  go_ret
  exact ⟨none, 0, rfl, fun j s hs => by simp at hs, Nat.le_refl _, Nat.zero_le _, HB.out.trans (hb.mono HB.out.size)⟩
end Go.Proofs.YtpfbgenefjhcjaaGreatDoor
