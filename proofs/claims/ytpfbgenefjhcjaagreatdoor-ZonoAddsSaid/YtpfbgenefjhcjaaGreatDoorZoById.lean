/- zono.byId: the columns by their Ids. -/
import Derived.Test.YtpfbgenefjhcjaaGreatDoorPZoSup
import Derived.Maps.OwnIn
import Derived.Maps.Views
import Derived.RangeFuncWrites
namespace Go.Proofs.YtpfbgenefjhcjaaGreatDoor
set_option linter.unusedVariables false
set_option linter.unusedSimpArgs false
open Go Go.RowKit Go.Shelf
attribute [local go_sem] Oper.semAt_some
set_option maxRecDepth 100000
/-- An element is held as it stands. -/
def heldV (v : Value) : Option (DataW Value × List MemPlace) := some (.held v, [])
/-- Entries, written one behind the other. -/
def putL (D : DataW Value) (l : List (Int × Value)) : DataW Value := l.foldl (fun D p => D.put (.int .i64 p.1) (.held p.2)) D
theorem putL_snoc (D : DataW Value) (l : List (Int × Value)) (p : Int × Value) : putL D (l ++ [p]) = (putL D l).put (.int .i64 p.1) (.held p.2) := by
 unfold putL
 rw [List.foldl_append]
 rfl
theorem putL_none {i : Int} (z : DataW Value) : ∀ (l : List (Int × Value)) (D : DataW Value), (∀ p ∈ l, p.1 ≠ i) → (putL D l).atKey (.int .i64 i) z = D.atKey (.int .i64 i) z := by
 intro l
 induction l with
 | nil => intro D _; rfl
 | cons p l ih =>
  intro D h
  show (putL (D.put (.int .i64 p.1) (.held p.2)) l).atKey (.int .i64 i) z = _
  rw [ih _ fun q hq => h q (List.mem_cons_of_mem _ hq)]
  refine Go.Maps.atKey_put_other (fun e => ?_) _ _
  injection e with _ e
  exact h p (List.mem_cons_self) e.symm
theorem putL_at {i : Int} {v : Value} (z : DataW Value) : ∀ (l : List (Int × Value)) (D : DataW Value), Go.Maps.IsMap D → l.Pairwise (fun p q => p.1 ≠ q.1) → (i, v) ∈ l → (putL D l).atKey (.int .i64 i) z = .held v := by
 intro l
 induction l with
 | nil => intro D _ _ h; cases h
 | cons p l ih =>
  intro D hD hp h
  rw [List.pairwise_cons] at hp
  show (putL (D.put (.int .i64 p.1) (.held p.2)) l).atKey (.int .i64 i) z = _
  rcases List.mem_cons.1 h with e | h
  ·subst e
   rw [putL_none z l _ fun q hq => (hp.1 q hq).symm]
   exact Go.Maps.atKey_put_same (k := .int .i64 i) hD (show True from trivial) _ _
  ·exact ih _ (hD.put _ _) hp.2 h
/-- Column k as an entry. -/
def entV (z : ZD) (ca : Nat → Option Addr) (cc : Nat → Nat) (k : Nat) : Int × Value := (z.ids.getD k 0, .slice (ca k) (colZ z k).length (cc k))
theorem three_alloc (w : World) (o0 o1 o2 : Obj) : (((w.alloc o0).alloc o1).alloc o2).heap[w.heap.size]? = some o0 ∧ (((w.alloc o0).alloc o1).alloc o2).heap[w.heap.size + 1 + 1]? = some o2 ∧
  (((w.alloc o0).alloc o1).alloc o2).heap.size = w.heap.size + 1 + 1 + 1 ∧ Below w.heap.size w (((w.alloc o0).alloc o1).alloc o2) := by
 have h0 := World.alloc_heap_new w o0
 have h2 := World.alloc_heap_new ((w.alloc o0).alloc o1) o2
 simp only [World.size_alloc] at h2
 refine ⟨?_, h2, by simp, ?_⟩
 ·exact (Below.heap_alloc _ _ _ (by simp; omega)).trans ((Below.heap_alloc _ _ _ (by simp)).trans h0)
 ·exact (((Below.refl _ w).alloc (Nat.le_refl _) _).alloc (by simp) _).alloc (by simp; omega) _
theorem key_int {i : Int} (h : (Lit.int .i64 i).wf = true) : keyOf Tryz.prog 3 (.int .i64 i) = some (.int .i64 i) := by
 unfold keyOf mapKey
 rw [Tryz.underlying3]
 exact if_pos ⟨rfl, h⟩
theorem wf_id {i : Int} (h0 : 0 ≤ i) (h1 : i ≤ 1073741824) : (Lit.int .i64 i).wf = true := by
 simp [Lit.wf, IntKind.min, IntKind.max, IntKind.signed, IntKind.bits]
 omega
set_option maxHeartbeats 4000000 in
theorem byId_any (w : World) (A B C D : Option Addr) (kA kB kC kD : Nat) (z : ZD) (ca : Nat → Option Addr) (cc : Nat → Nat) (h : ZCells w z A B C D kA kB kC kD) (hz : Good z) (hcol : ∀ k, k < z.g.length → ColAt w z ca cc k ∧ ∃ b o : Nat, C = some ⟨b, o, none⟩ ∧ b < w.heap.size ∧ w.cell? ⟨b, o + k, none⟩ = some (.slice (ca k) (colZ z k).length (cc k))) :
  Calls Tryz.prog 100 #[zval z A B C D kA kB kC kD] w fun e w' => ∃ b, e = .returned (.map (some b)) ∧ w.heap.size ≤ b ∧ w'.ownsMap Tryz.prog 3 heldV b z.g.length (putL (.map []) ((List.range z.g.length).map (entV z ca cc))) ∧ Below w.heap.size w w' := by
 have hmm := @run_makeMap Tryz.prog
 refine (callsIn_wide (n := 5)).1 ?_
 unfold zval
 refine callsIn_of_wp_marks Tryz.func100 rfl trivial ?_ rfl
 simp only [Tryz.ntmps100, List.size_toArray, List.length_cons, List.length_nil, Nat.reduceAdd, Nat.reduceSub, Array.replicate_succ, Array.replicate_zero, List.push_toArray, List.append_toArray, List.nil_append, List.cons_append]
 have hm0 := World.ownsMap_made (H := Value) (w.alloc (.cells #[.int .i64 z.n, .slice A z.c.length kA, .slice B z.ids.length kB, .slice C z.g.length kC, .slice D z.r.length kD, .bool z.bad] 26)) Tryz.prog 3 heldV
 rw [World.size_alloc] at hm0
 have hm1 := hm0.alloc (.cells #[.map (some (w.heap.size + 1))] 149)
 obtain ⟨f0, f2, f3, f4⟩ := three_alloc w (.cells #[.int .i64 z.n, .slice A z.c.length kA, .slice B z.ids.length kB, .slice C z.g.length kC, .slice D z.r.length kD, .bool z.bad] 26) (.map #[] 0) (.cells #[.map (some (w.heap.size + 1))] 149)
 gi_wp2_with (refine ⟨trivial, ?_⟩; gi_at_call 73; refine CallsIn.mono (callsIn_wide.2 (columns_any _ _ _ _ _ _ _)) ?_; rintro e w' ⟨rfl, rfl⟩)
 clear hm0 hmm
 generalize ((w.alloc (.cells #[.int .i64 z.n, .slice A z.c.length kA, .slice B z.ids.length kB, .slice C z.g.length kC, .slice D z.r.length kD, .bool z.bad] 26)).alloc (.map #[] 0)).alloc (.cells #[.map (some (w.heap.size + 1))] 149) = W2 at *
 obtain ⟨b1, e1⟩ : ∃ b, w.heap.size + 1 = b := ⟨_, rfl⟩
 rw [e1] at hm1 f2 f3 ⊢
 obtain ⟨b2, e2⟩ : ∃ b, b1 + 1 = b := ⟨_, rfl⟩
 rw [e2] at f2 f3 ⊢
 have hx3 := World.alloc_heap_new W2 (.cells #[.int .i64 z.n, .slice A z.c.length kA, .slice B z.ids.length kB, .slice C z.g.length kC, .slice D z.r.length kD, .bool z.bad] 26)
 have hb3 : Below w.heap.size w (W2.alloc (.cells #[.int .i64 z.n, .slice A z.c.length kA, .slice B z.ids.length kB, .slice C z.g.length kC, .slice D z.r.length kD, .bool z.bad] 26)) := f4.alloc (by omega) _
 have k2 : (W2.alloc (.cells #[.int .i64 z.n, .slice A z.c.length kA, .slice B z.ids.length kB, .slice C z.g.length kC, .slice D z.r.length kD, .bool z.bad] 26)).heap[b2]? = _ := (Below.heap_alloc _ _ _ (by omega)).trans f2
 have km := hm1.alloc (.cells #[.int .i64 z.n, .slice A z.c.length kA, .slice B z.ids.length kB, .slice C z.g.length kC, .slice D z.r.length kD, .bool z.bad] 26)
 rw [f3] at hx3
 have hs3 := World.size_alloc W2 (.cells #[.int .i64 z.n, .slice A z.c.length kA, .slice B z.ids.length kB, .slice C z.g.length kC, .slice D z.r.length kD, .bool z.bad] 26)
 generalize W2.alloc (.cells #[.int .i64 z.n, .slice A z.c.length kA, .slice B z.ids.length kB, .slice C z.g.length kC, .slice D z.r.length kD, .bool z.bad] 26) = W3 at *
 refine wpIn_rangeFunc_ownG rfl (by decide) (gf := 116) (lb := #[.pointer (some ⟨b2 + 1, 0, none⟩)]) rfl trivial (enters_of Tryz.func116 (by kernel_rfl) rfl)
  (columns_stops Fence.wide (5 - 1) trivial rfl (by decide) (b2 + 1) z.g.length z ca cc A B C D kA kB kC kD w W3 hz.len rfl hz.cols h.ids (fun k hk => (hcol k hk).2) hb3 hx3)
  KB.trans (KB.put (by omega) (by omega)) (Below.refl _ _) (fun _ => rfl)
  (fun (pre : List (Fin z.g.length)) W => (W.ownsMap Tryz.prog 3 heldV b1 pre.length (putL (.map []) (pre.map fun (x : Fin z.g.length) => entV z ca cc x.1)) ∧ W.heap[b2]? = some (.cells #[.map (some b1)] 149 (0, 0)) ∧ W3.heap.size ≤ W.heap.size) ∧ Below w.heap.size w W)
  (fun _ _ _ => False)
  (OwnFrom.and (fun s A B row hs hg hr => ⟨hs.1.kept hg (fun e => by have := (hr _ e.symm).1; omega), (hg.block b2 (Array.getElem?_eq_some_iff.1 hs.2.1).1 (fun e => by have := (hr _ e.symm).1; omega)).trans hs.2.1, Nat.le_trans hs.2.2 hg.size⟩) (ownFrom_below (Nat.le_refl _) (by omega)))
  (fun _ _ _ _ _ hs _ _ => hs)
  ⟨⟨km, k2, Nat.le_refl _⟩, hb3⟩ ?a1 ?assign ?body ?done ?stop
 case assign =>
  intro l x W K hK
  unfold colV
  gi_wp2
  exact hK
 case body =>
  rintro l pre x W ⟨⟨hm, hp2, hsz⟩, hB⟩ hlt
  have y2 := cell_one hp2
  obtain ⟨i, hi⟩ := get_some z.ids x.1 (by have := hz.len; omega)
  obtain ⟨hi0, hi1, _⟩ := hz.idk x.1 i hi
  have hgi : z.ids.getD x.1 0 = i := by rw [List.getD_eq_getElem?_getD, hi, Option.getD_some]
  have hcols := hz.cols
  gi_wp2_with (refine wpListIn_mapUpdate_own _ rfl _ _ _ 149 rfl 3 22 (Go.Maps.int_keyed Tryz.underlying3) Tryz.underlying149 heldV b1 pre.length _ rfl hm (by unfold maxLen; omega) (.int .i64 i) (.slice (ca x.1) (colZ z x.1).length (cc x.1)) (.int .i64 i) (by rw [← hgi]; rfl) rfl (key_int (wf_id hi0 hi1)) (.held (.slice (ca x.1) (colZ z x.1).length (cc x.1))) [] rfl ?_; intro w1 hown1 hgrow1)
  have hl2 := (Array.getElem?_eq_some_iff.1 hp2).1
  have hBs := hB.size
  refine ⟨KeepsFrom.of_grownBy hgrow1 (fun j e => by cases e; omega), KB.row hgrow1 (by omega) hBs (by omega), ⟨?_, (hgrow1.block b2 hl2 (fun e => by cases e; omega)).trans hp2, Nat.le_trans hsz hgrow1.size⟩, hB.trans (below_row hgrow1 (by omega) hBs)⟩
  rw [List.length_append, List.map_append, List.map_singleton, putL_snoc]
  unfold entV
  rw [hgi]
  exact hown1
 case done =>
  rintro D' ys W hD rfl ⟨⟨hm, hp2, hsz⟩, hB⟩ hK
  have y2 := cell_one hp2
  have e : (List.finRange z.g.length).map (fun (x : Fin z.g.length) => entV z ca cc x.1) = (List.range z.g.length).map (entV z ca cc) := by
   apply List.ext_getElem
   ·simp
   ·intro i h1 h2
    simp
  rw [e, List.length_finRange] at hm
  gi_wp2
  refine ⟨by simp, .inl ⟨_, _, rfl, run_takeDeferred hK, ?_⟩⟩
  exact ⟨_, results_tmp rfl _ _ _, b1, rfl, by omega, hm.kept (grownBy_putObj' _ D' (.deferred none)) (fun e => by cases e; omega), hB.trans (belowK_b (w := w) (Nat.le_refl _) W D' _ _ (by omega) hK rfl rfl)⟩
 case stop =>
  rintro D c pre W _ _ h _
  exact h.elim
end Go.Proofs.YtpfbgenefjhcjaaGreatDoor
