/-
 zono.equal, zono.Same.
 zono.Same: of two good ones.
 law10.first: a zonotope to try.
-/
import Derived.Test.YtpfbgenefjhcjaaGreatDoorPZoOwns
import Derived.StillTactics
namespace Go.Proofs.YtpfbgenefjhcjaaGreatDoor
set_option linter.unusedVariables false
set_option linter.unusedSimpArgs false
open Go Go.RowKit
set_option maxRecDepth 100000
def eqAt (us vs : List Nat) (k : Nat) : Bool := fz (us.getD k 0) == fz (vs.getD k 0)
def eqD (us vs : List Nat) : Bool := (List.range us.length).all (eqAt us vs) && us.length == vs.length
theorem range_all_succ (p : Nat → Bool) (k : Nat) (h : (List.range k).all p = true) (hk : p k = true) : (List.range (k + 1)).all p = true := by
 rw [List.range_succ, List.all_append, h]
 simp [hk]
set_option maxHeartbeats 4000000 in
theorem equal_any (w : World) (A B : Option Addr) (n m ca cb : Nat) (us vs : List Nat) (h : FR w A us) (h' : FR w B vs) (hl : us.length = n) (hl' : vs.length = m) (hm : n ≤ m) (hn : n ≤ 1000000) (su : Small us) (sv : Small vs) (nu : ∀ u ∈ us, fexp u ≠ 2047) (nv : ∀ u ∈ vs, fexp u ≠ 2047) :
  Calls Tryz.prog 92 #[.slice A n ca, .slice B m cb] w fun e w' => e = .returned (.bool (eqD us vs)) ∧ Below w.heap.size w w' := by
 unfold eqD
 rw [hl, hl']
 have HL := Lib.hid hl
 have HL' := Lib.hid hl'
 clear hl hl'
 go_enter Tryz.func92, Tryz.ntmps92
 go_wp2_with fail
 go_loopw [8] (fun kk wr => ∃ k : Nat, k ≤ n ∧ kk = .int .i64 (k : Nat) ∧ (List.range k).all (eqAt us vs) = true ∧ Below w.heap.size w wr) (fun kk _ => n - (intOf kk).toNat)
 case atStart => exact ⟨0, by omega, rfl, rfl, Below.refl _ _⟩
 case round =>
  obtain ⟨k, hk, rfl, hall, hb⟩ := hrel
  by_cases hlt : k < n
  ·have hlt' : (k : Int) < n := by omega
   have hltm : (k : Int) < m := by omega
   obtain ⟨u, hu⟩ := get_some us k (by rw [HL.out]; exact hlt)
   obtain ⟨v, hv⟩ := get_some vs k (by rw [HL'.out]; omega)
   obtain ⟨b, o, rfl, hbb, hc⟩ := h.at hb k u hu
   obtain ⟨b', o', rfl, hbb', hc'⟩ := h'.at hb k v hv
   have hc1 : wr.cell? ⟨b, o + k, none⟩ = some (.float .f64 u) := hc
   have hc2 : wr.cell? ⟨b', o' + k, none⟩ = some (.float .f64 v) := hc'
   have hord : (FloatKind.f64.format.order u v != some .eq) = !decide (fz u = fz v) := by
    rw [← order_eq_iff u v (su.at k u hu) (sv.at k v hv) (nu u (List.mem_of_getElem? hu)) (nv v (List.mem_of_getElem? hv))]
    rfl
   have heq : eqAt us vs k = decide (fz u = fz v) := by
    unfold eqAt
    rw [gnum _ _ _ hu, gnum _ _ _ hv]
    rfl
   have HO := Lib.hid hord
   have HE := Lib.hid heq
   clear hc hc' hu hv hord heq
   go_wp2_with fail
   go_still (by kernel_rfl)
   rw [HO.out]
   have heq := HE.out
   show Exit.then _ _ Exit.normal _ wr.drew
   by_cases he : fz u = fz v
   ·rw [decide_eq_true he] at heq ⊢
    rw [Bool.not_true]
    clear HO HE he
    go_wp2_with fail
    go_roundw
    case rel => exact ⟨k + 1, by omega, by go_num, range_all_succ _ _ hall heq, hb.drew⟩
    case measure => simp [intOf]; omega
   ·rw [decide_eq_false he] at heq ⊢
    rw [Bool.not_false]
    clear HO HE he
    have HR := Lib.hid (range_none (eqAt us vs) n k hlt heq)
    clear heq hall
    go_wp2_with fail
    go_ret
    exact ⟨by rw [HR.out]; rfl, hb.drew⟩
  ·obtain rfl : k = n := by omega
   have hlt' : decide ((k : Int) < (k : Nat)) = false := by simp
   have hcmp : (((k : Nat) : Int) == ((m : Nat) : Int)) = (k == m) := by
    by_cases e : k = m
    ·rw [e]; simp
    ·rw [beq_eq_false_iff_ne.2 e]; exact beq_eq_false_iff_ne.2 (by omega)
   have HC := Lib.hid hcmp
   clear hcmp
   have HR := Lib.hid hall
   clear hall
   go_wp2_with fail
   go_ret
   exact ⟨by rw [HR.out, Bool.true_and, ← HC.out]; rfl, hb⟩
end Go.Proofs.YtpfbgenefjhcjaaGreatDoor
namespace Go.Proofs.YtpfbgenefjhcjaaGreatDoor
set_option linter.unusedVariables false
set_option linter.unusedSimpArgs false
open Go Go.RowKit
set_option maxRecDepth 100000
def sameAt (z y : ZD) (k : Nat) : Bool := z.ids.getD k 0 == y.ids.getD k 0 && eqD (colZ z k) (colZ y k)
def sameG (z y : ZD) : Bool := z.n == y.n && z.ids.length == y.ids.length && (List.range z.ids.length).all (sameAt z y) && eqD z.c y.c && eqD z.r y.r
theorem Good.colAt {z : ZD} (h : Good z) (hk : ZOk z) (k : Nat) (hlt : k < z.g.length) : z.g[k]? = some (colZ z k) ∧ ((colZ z k).length : Int) = z.n ∧ Small (colZ z k) ∧ ∀ u ∈ colZ z k, fexp u ≠ 2047 := by
 have hgx : z.g[k]? = some (colZ z k) := by unfold colZ; rw [List.getD_eq_getElem?_getD, List.getElem?_eq_getElem hlt, Option.getD_some]
 exact ⟨hgx, (h.colG k _ hgx).2, (hk.g _ (List.mem_of_getElem? hgx)).1, (h.colG k _ hgx).1⟩
set_option maxHeartbeats 8000000 in
theorem same_good (w : World) (A B C D A' B' C' D' : Option Addr) (kA kB kC kD kA' kB' kC' kD' : Nat) (z y : ZD) (h : ZCells w z A B C D kA kB kC kD) (h' : ZCells w y A' B' C' D' kA' kB' kC' kD') (hk : ZOk z) (hk' : ZOk y) (hz : Good z) (hy : Good y) :
  Calls Tryz.prog 44 #[zval z A B C D kA kB kC kD, zval y A' B' C' D' kA' kB' kC' kD'] w fun e w' => e = .returned (.bool (sameG z y)) ∧ Below w.heap.size w w' := by
 obtain ⟨f0, f1, f2, f3⟩ := two_blocks w (.cells #[.int .i64 z.n, .slice A z.c.length kA, .slice B z.ids.length kB, .slice C z.g.length kC, .slice D z.r.length kD, .bool z.bad] 26) (.cells #[.int .i64 y.n, .slice A' y.c.length kA', .slice B' y.ids.length kB', .slice C' y.g.length kC', .slice D' y.r.length kD', .bool y.bad] 26)
 have hgz := good_any _ _ z ⟨A, B, C, D, kA, kB, kC, kD, rfl, h.below f3⟩ hk
 have hgy := fun w1 (hb : Below w.heap.size w w1) => good_any w1 _ y ⟨A', B', C', D', kA', kB', kC', kD', rfl, h'.below hb⟩ hk'
 rw [(goodD_iff z).2 hz] at hgz
 rw [(goodD_iff y).2 hy] at hgy
 unfold zval at hgz hgy ⊢
 obtain ⟨sn, hsn⟩ : ∃ b, sameG z y = b := ⟨_, rfl⟩
 have HS := Lib.hid hsn
 rw [hsn]
 clear hsn
 go_enter Tryz.func44, Tryz.ntmps44
 go_wp2_with fail
 refine hgz.mono ?_
 rintro e w1 ⟨rfl, hb⟩
 have hb1 := f3.trans (hb.mono f3.size)
 have hsz := hb.size
 rw [f2] at hb hsz
 have g0 := (hb.block _ (by omega)).trans f0
 have g1 := (hb.block _ (by omega)).trans f1
 have hgy1 := hgy w1 hb1
 clear hb f0 f1 f2 f3 hgz hgy
 obtain ⟨x0, x1, x2, x3, x4, x5⟩ := cells6 g1
 go_wp2_with fail
 refine hgy1.mono ?_
 rintro e w2 ⟨rfl, hb⟩
 have hb2 := hb1.trans (hb.mono hb1.size)
 have k0 := (hb.block _ (by omega)).trans g0
 have k1 := (hb.block _ (by omega)).trans g1
 have hsz2 := hb.size
 clear x0 x1 x2 x3 x4 x5 g0 g1 hb hgy1 hb1
 obtain ⟨x0, x1, x2, x3, x4, x5⟩ := cells6 k0
 obtain ⟨y0, y1, y2, y3, y4, y5⟩ := cells6 k1
 by_cases hn : z.n = y.n
 ·by_cases hl : z.ids.length = y.ids.length
  ·have HN := Lib.hid hn
   have HL := Lib.hid hl
   have x0' := x0
   rw [hn] at x0'
   have x2' := x2
   rw [hl] at x2'
   clear x0 x2 x1 x3 x4 x5 y1 y3 y4 y5 hn hl
   obtain ⟨L, hL⟩ : ∃ L, y.ids.length = L := ⟨_, rfl⟩
   have HLy := Lib.hid hL
   have HLz := Lib.hid (HL.out.trans hL)
   rw [hL] at x2' y2
   clear hL
   have hLg : L ≤ 1073741825 := by have := hz.cols; have := hz.len; have := HLz.out; omega
   go_wp2_with fail
   clear x0' x2' y0 y2
   go_loopw [48] (fun kk wr => ∃ k : Nat, k ≤ L ∧ kk = .int .i64 (k : Nat) ∧ (List.range k).all (sameAt z y) = true ∧ wr.heap[w.heap.size]? = some (.cells #[.int .i64 z.n, .slice A z.c.length kA, .slice B z.ids.length kB, .slice C z.g.length kC, .slice D z.r.length kD, .bool z.bad] 26 (0, 0)) ∧ wr.heap[w.heap.size + 1]? = some (.cells #[.int .i64 y.n, .slice A' y.c.length kA', .slice B' y.ids.length kB', .slice C' y.g.length kC', .slice D' y.r.length kD', .bool y.bad] 26 (0, 0)) ∧ Below w.heap.size w wr) (fun kk _ => L - (intOf kk).toNat)
   case atStart => exact ⟨0, by omega, rfl, rfl, k0, k1, hb2⟩
   case round =>
    obtain ⟨k, hkL, rfl, hall, h0, h1, hb⟩ := hrel
    clear k0 k1 hb2
    obtain ⟨x0, x1, x2, x3, x4, x5⟩ := cells6 h0
    obtain ⟨y0, y1, y2, y3, y4, y5⟩ := cells6 h1
    by_cases hlt : k < L
    ·have hlt' : (k : Int) < L := by omega
     obtain ⟨a, ha⟩ := get_some z.ids k (by rw [HLz.out]; exact hlt)
     obtain ⟨a', ha'⟩ := get_some y.ids k (by rw [HLy.out]; exact hlt)
     obtain ⟨bi, oi, rfl, hbi, hci⟩ := h.ids.at hb k a ha
     obtain ⟨bi', oi', rfl, hbi', hci'⟩ := h'.ids.at hb k a' ha'
     have hci1 : wr.cell? ⟨bi, oi + k, none⟩ = some (.int .i64 a) := hci
     have hci2 : wr.cell? ⟨bi', oi' + k, none⟩ = some (.int .i64 a') := hci'
     have hia : (k : Int) < z.ids.length := by rw [HLz.out]; exact hlt'
     have hib : (k : Int) < y.ids.length := by rw [HLy.out]; exact hlt'
     have hsa : sameAt z y k = (a == a' && eqD (colZ z k) (colZ y k)) := by
      unfold sameAt
      rw [List.getD_eq_getElem?_getD, List.getD_eq_getElem?_getD, ha, ha']
      rfl
     have HSA := Lib.hid hsa
     clear x0 x1 x4 x5 y0 y1 y4 y5 hsa hci hci'
     by_cases he : a = a'
     ·subst he
      have hkz : k < z.g.length := by rw [← hz.len, HLz.out]; exact hlt
      have hky : k < y.g.length := by rw [← hy.len, HLy.out]; exact hlt
      obtain ⟨gz1, gz2, gz3, gz4⟩ := hz.colAt hk k hkz
      obtain ⟨gy1, gy2, gy3, gy4⟩ := hy.colAt hk' k hky
      obtain ⟨bc, oc, rfl, hbc, Bz, cz, hcz, hcz1, hcz2, hcz3⟩ := h.g.at hb k _ gz1
      obtain ⟨bc', oc', rfl, hbc', By, cy, hcy, hcy1, hcy2, hcy3⟩ := h'.g.at hb k _ gy1
      have hgz : (k : Int) < z.g.length := by omega
      have hgy : (k : Int) < y.g.length := by omega
      have hz2 := hz.n2
      have hnn := HN.out
      have heq := equal_any wr.drew Bz By (colZ z k).length (colZ y k).length cz cy (colZ z k) (colZ y k) (hcz3.below (Nat.le_refl _) (Below.refl _ wr).drew) (hcy3.below (Nat.le_refl _) (Below.refl _ wr).drew) rfl rfl (by omega) (by omega) gz3 gy3 gz4 gy4
      rw [beq_self_eq_true, Bool.true_and] at HSA
      clear gz1 gz2 gz3 gz4 gy1 gy2 gy3 gy4 hnn hz2
      go_wp2_with fail
      go_still_tail 22, (by kernel_rfl)
      change wpList _ _ _ _ _ wr.drew
      go_wp2_with fail
      refine heq.mono ?_
      rintro e w5 ⟨rfl, hb5⟩
      have hb6 := hb.drew.trans (hb5.mono hb.drew.size)
      have n0 := (hb5.block _ (Array.getElem?_eq_some_iff.1 h0).1).trans h0
      have n1 := (hb5.block _ (Array.getElem?_eq_some_iff.1 h1).1).trans h1
      clear heq x2 x3 y2 y3 hcz hcy
      generalize eqD (colZ z k) (colZ y k) = q at *
      cases q with
      | true =>
       go_wp2_with fail
       go_roundw
       case rel => exact ⟨k + 1, by omega, by go_num, range_all_succ _ _ hall HSA.out, n0, n1, hb6⟩
       case measure => simp [intOf]; omega
      | false =>
       have hno : sn = false := by
        rw [← HS.out]
        unfold sameG
        rw [range_none (sameAt z y) z.ids.length k (by rw [HLz.out]; exact hlt) HSA.out]
        simp
       subst hno
       clear hall HSA
       go_wp2_with fail
       go_ret
       exact ⟨rfl, hb6⟩
     ·have hea : (a == a') = false := beq_eq_false_iff_ne.2 he
      have hea' : (a != a') = true := bne_iff_ne.2 he
      rw [hea, Bool.false_and] at HSA
      have hno : sn = false := by
       rw [← HS.out]
       unfold sameG
       rw [range_none (sameAt z y) z.ids.length k (by rw [HLz.out]; exact hlt) HSA.out]
       simp
      subst hno
      clear hall HSA he hea x3 y3
      go_wp2_with fail
      go_quiet (fail)
      go_wp2_with fail
      go_ret
      exact ⟨rfl, below_drewN' hb _⟩
    ·obtain rfl : k = L := by omega
     have hlt' : decide ((k : Int) < (k : Nat)) = false := by simp
     have hcz := hz.lenC
     have hcy := hy.lenC
     have hrz := hz.lenR
     have hry := hy.lenR
     have hnn := HN.out
     have hz2 := hz.n2
     have hy2 := hy.n2
     have heq := fun w1 (hb : Below w.heap.size w w1) => equal_any w1 A A' z.c.length y.c.length kA kA' z.c y.c (h.c.below (Nat.le_refl _) hb) (h'.c.below (Nat.le_refl _) hb) rfl rfl (by omega) (by omega) hk.c hk'.c hz.numC hy.numC
     have heq2 := fun w1 (hb : Below w.heap.size w w1) => equal_any w1 D D' z.r.length y.r.length kD kD' z.r y.r (h.r.below (Nat.le_refl _) hb) (h'.r.below (Nat.le_refl _) hb) rfl rfl (by omega) (by omega) hk.r hk'.r hz.numR hy.numR
     have heq1 := heq wr hb
     have HSN := Lib.hid (show sn = (eqD z.c y.c && eqD z.r y.r) by
      rw [← HS.out]
      unfold sameG
      rw [HN.out, HL.out, HLy.out, hall]
      simp)
     clear x0 x2 x3 x5 y0 y2 y3 y5 hcz hcy hrz hry hnn hz2 hy2 heq hall
     go_wp2_with fail
     refine heq1.mono ?_
     rintro e w5 ⟨rfl, hb5⟩
     have hb6 := hb.trans (hb5.mono hb.size)
     have n0 := (hb5.block _ (Array.getElem?_eq_some_iff.1 h0).1).trans h0
     have n1 := (hb5.block _ (Array.getElem?_eq_some_iff.1 h1).1).trans h1
     have heq3 := heq2 w5 hb6
     clear heq1 heq2 x1 x4 y1 y4 h0 h1
     obtain ⟨x0, x1, x2, x3, x4, x5⟩ := cells6 n0
     obtain ⟨y0, y1, y2, y3, y4, y5⟩ := cells6 n1
     clear x0 x1 x2 x3 x5 y0 y1 y2 y3 y5
     generalize eqD z.c y.c = q1 at *
     cases q1 with
     | true =>
      go_wp2_with fail
      refine heq3.mono ?_
      rintro e w6 ⟨rfl, hb7⟩
      go_wp2_with fail
      go_ret
      exact ⟨by rw [HSN.out, Bool.true_and]; rfl, hb6.trans (hb7.mono hb6.size)⟩
     | false =>
      have hno : sn = false := by rw [HSN.out, Bool.false_and]
      subst hno
      clear heq3 HSN
      go_wp2_with fail
      go_ret
      exact ⟨rfl, hb6⟩
  ·have hl' : (((z.ids.length : Nat) : Int) != ((y.ids.length : Nat) : Int)) = true := bne_iff_ne.2 (by omega)
   have hno : sn = false := by
    rw [← HS.out]
    unfold sameG
    rw [beq_eq_false_iff_ne.2 hl]
    simp
   subst hno
   have x0' := x0
   rw [hn] at x0'
   clear x0 hn hl HS
   go_wp2_with fail
   go_ret
   exact ⟨rfl, hb2⟩
 ·have hn' : (z.n != y.n) = true := bne_iff_ne.2 hn
  have hno : sn = false := by
   rw [← HS.out]
   unfold sameG
   rw [beq_eq_false_iff_ne.2 hn]
   simp
  subst hno
  clear hn HS
  go_wp2_with fail
  go_ret
  exact ⟨rfl, hb2⟩
end Go.Proofs.YtpfbgenefjhcjaaGreatDoor
namespace Go.Proofs.YtpfbgenefjhcjaaGreatDoor
set_option linter.unusedVariables false
set_option linter.unusedSimpArgs false
open Go Go.RowKit
set_option maxRecDepth 100000
def firstZ : ZD := ⟨2, [4607182418800017408, 4611686018427387904], [0, 3], [[4607182418800017408, 0], [4607182418800017408, 13830554455654793216]], [0, 4602678819172646912], false⟩
theorem row2 {α : Type} {c : α → Value} {w : World} {b : Nat} {t : TypeId} {x y : α} (h : w.heap[b]? = some (.cells #[c x, c y] t (0, 0))) : R1 c w (some ⟨b, 0, none⟩) [x, y] := fun j u hu => by
 refine ⟨b, 0, rfl, (Array.getElem?_eq_some_iff.1 h).1, ?_⟩
 rw [cell_of_row _ _ _ _ _ _ h, Nat.zero_add]
 match j, hu with
 | 0, hu => cases hu; rfl
 | 1, hu => cases hu; rfl
 | (j + 2), hu => simp at hu
theorem seven_blocks (w : World) (o0 o1 o2 o3 o4 o5 o6 : Obj) : (((((((w.alloc o0).alloc o1).alloc o2).alloc o3).alloc o4).alloc o5).alloc o6).heap[w.heap.size]? = some o0 ∧ (((((((w.alloc o0).alloc o1).alloc o2).alloc o3).alloc o4).alloc o5).alloc o6).heap[w.heap.size + 1]? = some o1 ∧ (((((((w.alloc o0).alloc o1).alloc o2).alloc o3).alloc o4).alloc o5).alloc o6).heap[w.heap.size + 1 + 1]? = some o2 ∧ (((((((w.alloc o0).alloc o1).alloc o2).alloc o3).alloc o4).alloc o5).alloc o6).heap[w.heap.size + 1 + 1 + 1]? = some o3 ∧ (((((((w.alloc o0).alloc o1).alloc o2).alloc o3).alloc o4).alloc o5).alloc o6).heap[w.heap.size + 1 + 1 + 1 + 1]? = some o4 ∧ (((((((w.alloc o0).alloc o1).alloc o2).alloc o3).alloc o4).alloc o5).alloc o6).heap[w.heap.size + 1 + 1 + 1 + 1 + 1]? = some o5 ∧ (((((((w.alloc o0).alloc o1).alloc o2).alloc o3).alloc o4).alloc o5).alloc o6).heap[w.heap.size + 1 + 1 + 1 + 1 + 1 + 1]? = some o6 ∧ (((((((w.alloc o0).alloc o1).alloc o2).alloc o3).alloc o4).alloc o5).alloc o6).heap.size = w.heap.size + 1 + 1 + 1 + 1 + 1 + 1 + 1 ∧ Below w.heap.size w (((((((w.alloc o0).alloc o1).alloc o2).alloc o3).alloc o4).alloc o5).alloc o6) := by
 have h0 := World.alloc_heap_new w o0
 have h1 := World.alloc_heap_new (w.alloc o0) o1
 have h2 := World.alloc_heap_new ((w.alloc o0).alloc o1) o2
 have h3 := World.alloc_heap_new (((w.alloc o0).alloc o1).alloc o2) o3
 have h4 := World.alloc_heap_new ((((w.alloc o0).alloc o1).alloc o2).alloc o3) o4
 have h5 := World.alloc_heap_new (((((w.alloc o0).alloc o1).alloc o2).alloc o3).alloc o4) o5
 have h6 := World.alloc_heap_new ((((((w.alloc o0).alloc o1).alloc o2).alloc o3).alloc o4).alloc o5) o6
 simp only [World.size_alloc] at h1 h2 h3 h4 h5 h6
 refine ⟨?_, ?_, ?_, ?_, ?_, ?_, h6, by simp, ?_⟩
 ·exact ((Below.heap_alloc _ _ _ (by first | omega | (simp only [World.size_alloc]; omega))).trans ((Below.heap_alloc _ _ _ (by first | omega | (simp only [World.size_alloc]; omega))).trans ((Below.heap_alloc _ _ _ (by first | omega | (simp only [World.size_alloc]; omega))).trans ((Below.heap_alloc _ _ _ (by first | omega | (simp only [World.size_alloc]; omega))).trans ((Below.heap_alloc _ _ _ (by first | omega | (simp only [World.size_alloc]; omega))).trans ((Below.heap_alloc _ _ _ (by first | omega | (simp only [World.size_alloc]; omega))).trans h0))))))
 ·exact ((Below.heap_alloc _ _ _ (by first | omega | (simp only [World.size_alloc]; omega))).trans ((Below.heap_alloc _ _ _ (by first | omega | (simp only [World.size_alloc]; omega))).trans ((Below.heap_alloc _ _ _ (by first | omega | (simp only [World.size_alloc]; omega))).trans ((Below.heap_alloc _ _ _ (by first | omega | (simp only [World.size_alloc]; omega))).trans ((Below.heap_alloc _ _ _ (by first | omega | (simp only [World.size_alloc]; omega))).trans h1)))))
 ·exact ((Below.heap_alloc _ _ _ (by first | omega | (simp only [World.size_alloc]; omega))).trans ((Below.heap_alloc _ _ _ (by first | omega | (simp only [World.size_alloc]; omega))).trans ((Below.heap_alloc _ _ _ (by first | omega | (simp only [World.size_alloc]; omega))).trans ((Below.heap_alloc _ _ _ (by first | omega | (simp only [World.size_alloc]; omega))).trans h2))))
 ·exact ((Below.heap_alloc _ _ _ (by first | omega | (simp only [World.size_alloc]; omega))).trans ((Below.heap_alloc _ _ _ (by first | omega | (simp only [World.size_alloc]; omega))).trans ((Below.heap_alloc _ _ _ (by first | omega | (simp only [World.size_alloc]; omega))).trans h3)))
 ·exact ((Below.heap_alloc _ _ _ (by first | omega | (simp only [World.size_alloc]; omega))).trans ((Below.heap_alloc _ _ _ (by first | omega | (simp only [World.size_alloc]; omega))).trans h4))
 ·exact ((Below.heap_alloc _ _ _ (by first | omega | (simp only [World.size_alloc]; omega))).trans h5)
 ·exact ((((((((Below.refl _ w).alloc (by first | omega | (simp only [World.size_alloc]; omega)) _).alloc (by first | omega | (simp only [World.size_alloc]; omega)) _).alloc (by first | omega | (simp only [World.size_alloc]; omega)) _).alloc (by first | omega | (simp only [World.size_alloc]; omega)) _).alloc (by first | omega | (simp only [World.size_alloc]; omega)) _).alloc (by first | omega | (simp only [World.size_alloc]; omega)) _).alloc (by first | omega | (simp only [World.size_alloc]; omega)) _)
theorem first_ok : ZOk firstZ := by
 constructor
 ·intro u hu; simp [firstZ] at hu; rcases hu with rfl | rfl <;> decide
 ·intro u hu; simp [firstZ] at hu; rcases hu with rfl | rfl <;> decide
 ·intro g hg; simp [firstZ] at hg; rcases hg with rfl | rfl <;> exact ⟨by intro u hu; simp at hu; rcases hu with rfl | rfl <;> decide, by decide⟩
 ·decide
 ·decide
 ·decide
 ·decide
 ·decide
 ·decide
 ·intro i hi; simp [firstZ] at hi; rcases hi with rfl | rfl <;> decide
theorem first_good : goodD firstZ = true := by decide +kernel
set_option maxHeartbeats 4000000 in
theorem first_any (w : World) : Calls Tryz.prog 64 #[] w fun e w' => ∃ v, e = .returned v ∧ ZIs w' v firstZ ∧ Below w.heap.size w w' := by
 go_enter Tryz.func64, Tryz.ntmps64
 go_wp2_with fail
 obtain ⟨f0, f1, f2, f3, f4, f5, f6, _, fb⟩ := seven_blocks w (.cells #[.int .i64 2, .slice (some ⟨w.heap.size + 1, 0, none⟩) 2 2, .slice (some ⟨w.heap.size + 1 + 1, 0, none⟩) 2 2, .slice (some ⟨w.heap.size + 1 + 1 + 1 + 1 + 1, 0, none⟩) 2 2, .slice (some ⟨w.heap.size + 1 + 1 + 1 + 1 + 1 + 1, 0, none⟩) 2 2, .bool false] 26) (.cells #[.float .f64 4607182418800017408, .float .f64 4611686018427387904] 43) (.cells #[.int .i64 0, .int .i64 3] 3) (.cells #[.float .f64 4607182418800017408, .float .f64 0] 43) (.cells #[.float .f64 4607182418800017408, .float .f64 13830554455654793216] 43) (.cells #[.slice (some ⟨w.heap.size + 1 + 1 + 1, 0, none⟩) 2 2, .slice (some ⟨w.heap.size + 1 + 1 + 1 + 1, 0, none⟩) 2 2] 22) (.cells #[.float .f64 0, .float .f64 4602678819172646912] 43)
 obtain ⟨x0, x1, x2, x3, x4, x5⟩ := cells6 f0
 refine bodyPost_ret (v := .agg #[.int .i64 2, .slice (some ⟨w.heap.size + 1, 0, none⟩) 2 2, .slice (some ⟨w.heap.size + 1 + 1, 0, none⟩) 2 2, .slice (some ⟨w.heap.size + 1 + 1 + 1 + 1 + 1, 0, none⟩) 2 2, .slice (some ⟨w.heap.size + 1 + 1 + 1 + 1 + 1 + 1, 0, none⟩) 2 2, .bool false]) (by simp [results, Tryz.results64, go_sem, x0, x1, x2, x3, x4, x5]) rfl ?_
 refine ⟨_, rfl, ⟨(some ⟨w.heap.size + 1, 0, none⟩), (some ⟨w.heap.size + 1 + 1, 0, none⟩), (some ⟨w.heap.size + 1 + 1 + 1 + 1 + 1, 0, none⟩), (some ⟨w.heap.size + 1 + 1 + 1 + 1 + 1 + 1, 0, none⟩), 2, 2, 2, 2, rfl, row2 (c := cF) f1, row2 (c := cI) f2, ?_, row2 (c := cF) f6, ⟨by decide, by decide, fun e => by cases e⟩, ⟨by decide, by decide, fun e => by cases e⟩, ⟨by decide, by decide, fun e => by cases e⟩, ⟨by decide, by decide, fun e => by cases e⟩⟩, fb⟩
 intro k g hg
 match k, hg with
 | 0, hg => cases hg; exact ⟨_, 0, rfl, (Array.getElem?_eq_some_iff.1 f5).1, (some ⟨w.heap.size + 1 + 1 + 1, 0, none⟩), 2, (cell_of_row _ _ _ _ _ _ f5).trans rfl, by decide, by decide, row2 (c := cF) f3⟩
 | 1, hg => cases hg; exact ⟨_, 0, rfl, (Array.getElem?_eq_some_iff.1 f5).1, (some ⟨w.heap.size + 1 + 1 + 1 + 1, 0, none⟩), 2, (cell_of_row _ _ _ _ _ _ f5).trans rfl, by decide, by decide, row2 (c := cF) f4⟩
 | (k + 2), hg => simp [firstZ] at hg
end Go.Proofs.YtpfbgenefjhcjaaGreatDoor
