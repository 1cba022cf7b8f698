/- ambitlaw3.AccOrder: true. -/
import Derived.Test.YtopilodakphhgaaDoorOrderRel
import Derived.Test.YtopilodakphhgaaDoorBegun
import Derived.Deep.CutRange
namespace Go.Proofs.YtopilodakphhgaaDoor
set_option linter.unusedVariables false
set_option linter.unusedSimpArgs false
open Go Go.RowKit
set_option maxRecDepth 100000
/-- The order's numbers as they lie in memory. -/
def IRow (w : World) (A : Option Addr) (zs : List Int) : Prop := ∀ (j : Nat) (z : Int), zs[j]? = some z → ∃ x : Addr, A = some x ∧ x.block < w.heap.size ∧ w.cell? (x.add j) = some (.int .i64 z)
theorem IRow.at {w wr : World} {A : Option Addr} {zs : List Int} (h : IRow w A zs) (hb : Below w.heap.size w wr) (j : Nat) (z : Int) (hj : zs[j]? = some z) : ∃ x : Addr, A = some x ∧ wr.cell? (x.add j) = some (.int .i64 z) := by
  obtain ⟨x, h1, h2, h3⟩ := h j z hj
  exact ⟨x, h1, by rw [hb.cell (by rw [add_block]; exact h2)]; exact h3⟩
theorem new_is (w : World) : AccIs (w.alloc (.cells (accCells 0 false) 62)) w.heap.size (some 0) ∧ Below w.heap.size w (w.alloc (.cells (accCells 0 false) 62)) := by
  refine ⟨⟨?_, ?_⟩, (Below.refl _ _).alloc (Nat.le_refl _) _⟩
  · rw [show enc 0 = 0 by decide +kernel]; exact heap_alloc_new w _
  · exact LIM_pos
theorem pick_fine (ts : List Trm) (h : ∀ (j : Nat) (t : Trm), ts[j]? = some t → t.a < B64 ∧ t.b < B64) (k : Nat) : ∀ t ∈ pickT (ts.take k), fineT t := fine_pick _ fun t ht => by
  obtain ⟨j, hj⟩ := List.mem_iff_getElem?.1 (List.mem_of_mem_take ht)
  exact h j t hj
theorem TRow.small {w : World} {A : Option Addr} {ts : List Trm} (h : TRow w A ts) : ∀ (j : Nat) (t : Trm), ts[j]? = some t → t.a < B64 ∧ t.b < B64 := fun j t hj => by
  obtain ⟨_, _, _, _, _, _, _, h1, h2, _⟩ := h j t hj
  exact ⟨h1, h2⟩
theorem fine_small {ts : List Trm} (h : ∀ t ∈ ts, fineT t) : ∀ t ∈ ts, t.a < B64 ∧ t.b < B64 ∧ -9223372036854775808 ≤ t.n ∧ t.n ≤ 9223372036854775807 := fun t ht => by
  obtain ⟨h1, h2, _, _, h3, h4⟩ := h t ht
  exact ⟨h1, h2, by omega, by omega⟩
set_option maxHeartbeats 16000000 in
theorem order_any (w : World) (A1 : Option Addr) (n1 cap1 : Nat) (ts : List Trm) (A2 : Option Addr) (n2 cap2 : Nat) (zs : List Int) (A3 : Option Addr) (n3 cap3 : Nat) (ms : List Trm)
    (h1 : TRow w A1 ts) (l1 : ts.length = n1) (c1 : n1 ≤ cap1) (m1 : cap1 ≤ maxLen) (h2 : IRow w A2 zs) (l2 : zs.length = n2) (c2 : n2 ≤ cap2) (m2 : cap2 ≤ maxLen) (h3 : TRow w A3 ms) (l3 : ms.length = n3) (c3 : n3 ≤ cap3) (m3 : cap3 ≤ maxLen) :
    Calls Tryd.prog 5 #[.slice A1 n1 cap1, .slice A2 n2 cap2, .slice A3 n3 cap3] w fun e w' => e = .returned (.bool true) ∧ Below w.heap.size w w' := by
  have ht1 := terms_any w A1 n1 cap1 ts h1 l1 c1 m1
  have hf1 := pick_fine ts h1.small 200
  have hf3 := pick_fine ms h3.small 200
  have hl1 := pickT_length ts 200
  have hl3 := pickT_length ms 200
  have ht3 : ∀ w2 : World, Below w.heap.size w w2 → Calls Tryd.prog 23 #[.slice A3 n3 cap3] w2 fun e w' => ∃ v, e = .returned v ∧ OwnT w' w2.heap.size v (pickT (ms.take 200)) ∧ Below w2.heap.size w2 w' := fun w2 hb => by
    refine terms_any w2 A3 n3 cap3 ms (fun j t hj => ?_) l3 c3 m3
    obtain ⟨b, o, e1, e2, e3, e4, e5, e6⟩ := h3.at hb j t hj
    exact ⟨b, o, e1, Nat.lt_of_lt_of_le e2 hb.size, e3, e4, e5, e6⟩
  clear h1 h3 l1 l3 c1 c3 m1 m3
  generalize pickT (ts.take 200) = L at *
  generalize pickT (ms.take 200) = M at *
  go_enter Tryd.func5, Tryd.ntmps5
  go_wp2_with fail
  refine ht1.mono ?_
  rintro e w1 ⟨v1, rfl, ho1, hb1⟩
  have ht3' := ht3 w1 hb1
  clear ht1 ht3
  go_wp2_with fail
  refine ht3'.mono ?_
  rintro e w2 ⟨v3, rfl, ho3, hb2⟩
  have hbb := hb1.trans (hb2.mono hb1.size)
  obtain ⟨Al, capl, rfl, hcl, hml, hrl, htl⟩ := ho1.trow (fine_small hf1)
  obtain ⟨Am, capm, rfl, hcm, hmm, hrm, htm⟩ := ho3.trow (fine_small hf3)
  clear htm
  clear ht3'
  go_wp2_with fail
  refine (new_any _).mono ?_
  rintro e w3 ⟨rfl, hw3⟩
  go_wp2_with fail
  refine (new_any _).mono ?_
  rintro e w4 ⟨rfl, hw4⟩
  go_wp2_with fail
  refine (new_any _).mono ?_
  rintro e w5 ⟨rfl, hw5⟩
  have hs3 : w3.heap.size = w2.heap.size + 1 := by rw [← hw3]; simp
  have hs4 : w4.heap.size = w3.heap.size + 1 := by rw [← hw4]; simp
  have hs5 : w5.heap.size = w4.heap.size + 1 := by rw [← hw5]; simp
  have hn3 := new_is w2
  have hn4 := new_is w3
  have hn5 := new_is w4
  rw [hw3] at hn3
  rw [hw4] at hn4
  rw [hw5] at hn5
  have ax5 : AccIs w5 w2.heap.size (some 0) := (hn3.1.below hn3.1.lt hn4.2).below (by omega) hn5.2
  have ay5 : AccIs w5 w3.heap.size (some 0) := hn4.1.below hn4.1.lt hn5.2
  have ap5 : AccIs w5 w4.heap.size (some 0) := hn5.1
  have hb5 : Below w2.heap.size w2 w5 := (hn3.2.trans (hn4.2.mono (by omega))).trans (hn5.2.mono (by omega))
  clear hn3 hn4 hn5
  clear hw3 hw4 hw5
  go_wp2_with fail
  refine (begun_any w5).mono ?_
  rintro e w6 ⟨rfl, hb6⟩
  have hbase : OrdBase w w6 w2.heap.size w3.heap.size w4.heap.size := by
    have e1 := hbb.size
    have e2 := hb6.size
    exact ⟨by omega, by omega, by omega, by omega, by omega, by omega⟩
  have hrel6 : OrdRel w w6 w6 w2.heap.size w3.heap.size w4.heap.size (.slice none 0 0) [] 0 0 0 :=
    ⟨(hbb.trans (hb5.mono hbb.size)).trans (hb6.mono (by have := hbb.size; have := hb5.size; omega)), Nat.le_refl _, fun _ _ _ _ _ => rfl, ax5.below ax5.lt hb6, ay5.below ay5.lt hb6, ap5.below ap5.lt hb6, OwnT.nil _ _⟩
  have hb26 := hb5.trans (hb6.mono hb5.size)
  have hrowL : RowIn w6 w2.heap.size w3.heap.size w4.heap.size Al L := RowIn.of hrl hf1 (hb2.trans (hb26.mono hb2.size)) hb2.size (by have := hb2.size; omega) (by have := hb2.size; omega)
  have hrowM : RowIn w6 w2.heap.size w3.heap.size w4.heap.size Am M := RowIn.of hrm hf3 hb26 (by omega) (by omega) (by omega)
  have htl6 := htl.below (hb2.trans (hb26.mono hb2.size))
  clear ax5 ay5 ap5 hb5 hb6 hb26 hrm hrl ho1 ho3 hb2 hb1 htl
  rw [hs4, hs3] at hbase hrel6 hrowL hrowM
  clear hs5
  clear hs4
  clear hs3
  generalize w2.heap.size = bx at *
  clear hbb
  clear w1 w2 w3 w4 w5
  go_upto_region 6 with fail
  go_cut [10] from 36 to 38 (fun v wx => OrdRel w w6 wx bx (bx + 1) (bx + 1 + 1) v L 0 0 0)
  case first =>
    rcases htl6 with ⟨rfl, rfl, rfl⟩ | ⟨g, rfl, hg, hcells⟩
    · go_wp2_with (at_builtin; refine wpList_append_own_none rfl _ _ _ rfl w6.heap.size 56 _ 3 Tryd.underlying51 _ _ 0 _ rfl (OwnT.nil _ _) rfl ?_)
      go_meet
      case rel => exact hrel6
    · go_wp2_with (at_builtin; refine wpList_append_t rfl _ _ rfl w6.heap.size _ [] L rfl (OwnT.nil _ _) _ _ _ rfl rfl hcells (by simp; omega) (Nat.le_refl _) ?_; intro v' w7 hown hgrow hat)
      go_meet
      case rel =>
        have hg7 : w6.grownBy w7 none := hgrow
        exact hrel6.newLeft hbase hg7 (fun k e => by cases e) hown
  case rest =>
    clear hrel6 htl6
    obtain ⟨N, hN⟩ : ∃ N, N = L.length := ⟨_, rfl⟩
    rw [← hN]
    rw [← hN] at hcl
    have hNN := Lib.hid hN
    have hN9 : N ≤ 200 := by omega
    clear hN
    go_wp2_with fail
    go_loopw [11] (fun i wr => ∃ k : Nat, k ≤ N ∧ i = .int .i64 (k : Nat) ∧ OrdRel w w6 wr bx (bx + 1) (bx + 1 + 1) u10 L (sumT (L.take k)) 0 0) (fun i _ => N - (intOf i).toNat)
    case atStart => exact ⟨0, by omega, rfl, hcut⟩
    case round =>
      obtain ⟨k, hk, rfl, hr⟩ := hrel
      clear hcut
      by_cases hlt : k < N
      · have hlt' : (k : Int) < (N : Int) := by omega
        have hk0 : (0 : Int) ≤ (k : Int) := by omega
        obtain ⟨t, ht⟩ : ∃ t, L[k]? = some t := ⟨L[k]'(by have := hNN.out; omega), List.getElem?_eq_getElem _⟩
        obtain ⟨hft, b, o, rfl, d0, d1, d2⟩ := hr.cells hrowL k t ht
        have hs1 := sumT_next L k t ht
        have hs2 := sumT_take L (k + 1) hf1
        have hle : (k + 1) * KT ≤ 200 * KT := Nat.mul_le_mul_right _ (by have := hNN.out; omega)
        have hKL := KT_LIM
        have hinto := into_fine wr bx t false (sumT (L.take k)) hr.ax hft (by show (sumT (L.take k) + valT t).natAbs < LIM; rw [← hs1]; omega)
        rw [show (bif false then sumT (L.take k) - valT t else sumT (L.take k) + valT t) = sumT (L.take (k + 1)) from hs1.symm] at hinto
        clear hs1 hs2 hle hKL
        go_wp2_with fail
        refine hinto.mono ?_
        rintro e w8 ⟨rfl, ha8, hg8⟩
        have hr8 := hr.inX hbase hg8 ha8
        clear hinto hr ha8 hg8 d0 d1 d2
        go_wp2_with fail
        go_roundw
        case rel => exact ⟨k + 1, by omega, by go_num, hr8⟩
        case measure => simp [intOf]; omega
      · obtain rfl : k = N := by omega
        have hlt' : decide ((k : Int) < (k : Nat)) = false := by simp
        rw [show sumT (L.take k) = sumT L by rw [List.take_of_length_le (by have := hNN.out; omega)]] at hr
        have hX := sumT_lt L hf1
        obtain ⟨X, hXe⟩ : ∃ X, X = sumT L := ⟨_, rfl⟩
        rw [← hXe] at hr hX
        have hXl : X.natAbs < LIM := by
          have hle : L.length * KT ≤ 200 * KT := Nat.mul_le_mul_right _ hl1
          have hKL := KT_LIM
          omega
        have hXX := Lib.hid hXe
        have hr1 := hr
        clear hXe hX hr hlt hk
        obtain ⟨w1, rfl⟩ : ∃ w1 : World, w1 = wr := ⟨_, rfl⟩
        have hjoin : ∀ (wr : World) (v : Value) (ls : List Trm) (y p : Int), OrdRel w w6 wr bx (bx + 1) (bx + 1 + 1) v ls X y p → y - p = X →
            Calls Tryd.prog 15 #[.pointer (some ⟨(bx + 1), 0, none⟩), .pointer (some ⟨(bx + 1 + 1), 0, none⟩), .bool true] wr fun e w' => e = .returned (.tuple #[]) ∧ AccIs w' bx (some X) ∧ AccIs w' (bx + 1) (some X) ∧ Below w.heap.size w w' := fun wr v ls y p hr he =>
          (join_any wr (bx + 1) (bx + 1 + 1) (some y) (some p) true hr.ay hr.ap).mono fun e w' ⟨h1, h2, h3⟩ => by
            have h4 : joinS (some y) (some p) true = some X := by
              show clip (y - p) = some X
              rw [he]
              exact if_pos hXl
            rw [h4] at h2
            have h5 := hr.inY hbase h3 h2
            exact ⟨h1, h5.ax, h5.ay, h5.below⟩
        go_wp2_with fail
        go_loopw [10, 12] (fun v i wr => ∃ (i0 : Nat) (ls : List Trm) (y p : Int), i = .int .i64 (i0 : Nat) ∧ OrdRel w w6 wr bx (bx + 1) (bx + 1 + 1) v ls X y p ∧ i0 + ls.length = k ∧ (∀ t ∈ ls, fineT t) ∧ y - p + sumT ls = X ∧ y.natAbs ≤ gath i0 ∧ p.natAbs ≤ gath i0) (fun _ i _ => k - (intOf i).toNat)
        case atStart => exact ⟨0, L, 0, 0, rfl, hr1, by have := hNN.out; omega, hf1, by rw [hXX.out]; omega, by simp, by simp⟩
        case round =>
          obtain ⟨i0, ls, y, p, rfl, hr, hil, hfl, hsum, hy, hp⟩ := hrel
          clear hr1
          rcases hr.left.row with ⟨rfl, rfl⟩ | ⟨g, cap, rfl, hbg, hg, hn, hm, hc⟩
          · have hj := hjoin _ _ _ _ _ hr (by simp [sumT] at hsum; exact hsum)
            clear hjoin hr
            go_wp2_with fail
            refine hj.mono ?_
            rintro e w9 ⟨rfl, hx9, hy9, hb9⟩
            have htw := twins_any w9 bx (bx + 1) X hx9 hy9
            go_wp2_with fail
            refine htw.mono ?_
            rintro e w10 ⟨rfl, hb10⟩
            go_wp2_with fail
            go_ret
            exact ⟨rfl, hb9.trans (hb10.mono hb9.size)⟩
          · obtain ⟨n, hn0⟩ : ∃ n, n = ls.length := ⟨_, rfl⟩
            have hnn := Lib.hid hn0
            rw [← hn0] at hil hn
            rw [← hn0]
            clear hn0
            by_cases hz : n = 0
            · subst hz
              have hj := hjoin _ _ _ _ _ hr (by have h0 : ls = [] := List.eq_nil_of_length_eq_zero hnn.out.symm
                                                subst h0
                                                simp [sumT] at hsum
                                                exact hsum)
              clear hjoin hr
              go_wp2_with fail
              refine hj.mono ?_
              rintro e w9 ⟨rfl, hx9, hy9, hb9⟩
              have htw := twins_any w9 bx (bx + 1) X hx9 hy9
              go_wp2_with fail
              refine htw.mono ?_
              rintro e w10 ⟨rfl, hb10⟩
              go_wp2_with fail
              go_ret
              exact ⟨rfl, hb9.trans (hb10.mono hb9.size)⟩
            · have hnp0 : 0 < n := by omega
              have hnp : (0 : Int) < (n : Int) := by omega
              have hnz : ((n : Int) == 0) = false := by rw [beq_eq_false_iff_ne]; omega
              clear hjoin
              go_upto_if 59 with fail
              go_cut [13] from 51 to 105 (fun kv wx => (∃ q : Nat, q < n ∧ kv = .int .i64 (q : Nat)) ∧ wx = wr)
              case first =>
                by_cases hio : i0 < n2
                · obtain ⟨z, hzz⟩ : ∃ z, zs[i0]? = some z := ⟨zs[i0]'(by omega), List.getElem?_eq_getElem _⟩
                  obtain ⟨x, rfl, hcell⟩ := h2.at hr.below i0 z hzz
                  have hio' : (i0 : Int) < (n2 : Int) := by omega
                  have hio2 : decide ((i0 : Int) < (n2 : Int)) = true := by simp; omega
                  have hand := i64_and40 z
                  obtain ⟨q, hq1, hq2⟩ : ∃ q : Nat, q < n ∧ Int.tmod (z % 1099511627776) (n : Int) = (q : Nat) := by
                    have e1 := Int.emod_nonneg z (show (1099511627776 : Int) ≠ 0 by decide)
                    have e2 := Int.tmod_lt_of_pos (z % 1099511627776) hnp
                    have e3 := Int.tmod_nonneg (n : Int) e1
                    exact ⟨(Int.tmod (z % 1099511627776) (n : Int)).toNat, by omega, by omega⟩
                  go_wp2_with fail
                  go_meet
                  case rel => exact ⟨⟨q, hq1, rfl⟩, rfl⟩
                · have hio' : decide ((i0 : Int) < (n2 : Int)) = false := by simp; omega
                  go_wp2_with fail
                  go_meet
                  case rel => exact ⟨⟨0, by omega, rfl⟩, rfl⟩
              case rest =>
                obtain ⟨⟨q, hq, hk13⟩, rfl⟩ := hcut
                subst hk13
                obtain ⟨t, ht⟩ : ∃ t, ls[q]? = some t := ⟨ls[q]'(by have := hnn.out; omega), List.getElem?_eq_getElem _⟩
                have hft := hfl t (List.mem_of_getElem? ht)
                obtain ⟨d0, d1, d2⟩ := trms_get ls q t ht
                have c0 := hc _ _ d0
                have c1' := hc _ _ d1
                have c2' := hc _ _ d2
                have hq' : (q : Int) < (n : Int) := by omega
                have hq0 : (0 : Int) ≤ (q : Int) := by omega
                rw [show 3 * q = q * 3 by omega] at c0 c1' c2'
                clear d0 d1 d2
                go_wp2_with fail
                have hrA := hr.grown hbase (World.grownBy_alloc wc (.cells #[.int .u64 (t.a : Nat), .int .u64 (t.b : Nat), .int .i64 t.n] 56) none)
                have hT := heap_alloc_new wc (.cells #[.int .u64 (t.a : Nat), .int .u64 (t.b : Nat), .int .i64 t.n] 56)
                have hcA : ∀ j u, (trms ls)[j]? = some u → (wc.alloc (.cells #[.int .u64 (t.a : Nat), .int .u64 (t.b : Nat), .int .i64 t.n] 56)).cell? ⟨g, j, none⟩ = some u := fun j u hu => by
                  rw [World.cell?_alloc_lt _ _ _ hg]
                  exact hc j u hu
                have hszA : (wc.alloc (.cells #[.int .u64 (t.a : Nat), .int .u64 (t.b : Nat), .int .i64 t.n] 56)).heap.size = wc.heap.size + 1 := by simp
                have hgs : wc.heap.size < (wc.alloc (.cells #[.int .u64 (t.a : Nat), .int .u64 (t.b : Nat), .int .i64 t.n] 56)).heap.size := by omega
                have hrgl : g < (wc.alloc (.cells #[.int .u64 (t.a : Nat), .int .u64 (t.b : Nat), .int .i64 t.n] 56)).heap.size := by omega
                have hgt6 : w6.heap.size ≤ wc.heap.size := hr.size
                clear hr hc c0 c1' c2'
                generalize wc.alloc (.cells #[.int .u64 (t.a : Nat), .int .u64 (t.b : Nat), .int .i64 t.n] 56) = WA at *
                generalize wc.heap.size = gt at *
                have hnews1 : ∀ j u, (trms (ls.take q))[j]? = some u → WA.drew.cell? ((⟨g, 0, none⟩ : Addr).add j) = some u := fun j u hu => by
                  rw [add_zero_off]
                  exact (World.cell?_of_block rfl).trans (hcA j u (trms_take ls q j u hu))
                have hlen1 : (ls.take q).length = q := by rw [List.length_take]; have := hnn.out; omega
                have hlen2 : (ls.drop (q + 1)).length = n - (q + 1) := by rw [List.length_drop]; have := hnn.out; omega
                have hb63 : ([] : List Trm).length + q ≤ 1000000 := by simp; omega
                have hb64 : (ls.take q).length + (n - (q + 1)) ≤ 1000000 := by omega
                have hszw : w6.heap.size ≤ WA.drew.heap.size := hrA.size
                have hqn : (q : Int) ≤ (cap : Int) := by omega
                have hqn1 : (q : Int) + 1 ≤ (n : Int) := by omega
                have hncap : (n : Int) ≤ (cap : Int) := by omega
                have hwr : IntKind.i64.wrap ((q : Int) + 1) = ((q + 1 : Nat) : Int) := by rw [IntKind.wrap_i64]; omega
                have hq10 : (0 : Int) ≤ ((q + 1 : Nat) : Int) := by omega
                have hq11 : (0 : Int) ≤ (q : Int) + 1 := by omega
                have hq1n : ((q + 1 : Nat) : Int) ≤ (n : Int) := by omega
                have hsum2 := sumT_without ls q t ht
                have hfl2 : ∀ u ∈ ls.take q ++ ls.drop (q + 1), fineT u := fun u hu => by
                  rcases List.mem_append.1 hu with hu | hu
                  · exact hfl u (List.mem_of_mem_take hu)
                  · exact hfl u (List.mem_of_mem_drop hu)
                have hlen3 : (ls.take q ++ ls.drop (q + 1)).length + 1 = n := by rw [List.length_append, hlen1, hlen2]; omega
                have hq3 : q + 1 ≤ ls.length := by have := hnn.out; omega
                go_cut [10] from 51 to 105 (fun v2 wx => OrdRel w w6 wx bx (bx + 1) (bx + 1 + 1) v2 (ls.take q ++ ls.drop (q + 1)) X y p ∧ wx.heap[gt]? = some (.cells #[.int .u64 (t.a : Nat), .int .u64 (t.b : Nat), .int .i64 t.n] 56 (0, 0)))
                case first =>
                  obtain ⟨ad, hif, hadg, hnews2⟩ : ∃ ad : Addr, (if cap = q + 1 then some (⟨g, 0, none⟩ : Addr) else some ⟨g, (q + 1) * 3, none⟩) = some ad ∧ ad.block = g ∧ ∀ j u, (trms (ls.drop (q + 1)))[j]? = some u → WA.cell? (ad.add j) = some u := by
                    by_cases hcq : cap = q + 1
                    · refine ⟨⟨g, 0, none⟩, if_pos hcq, rfl, fun j u hu => ?_⟩
                      have he : ls.drop (q + 1) = [] := List.eq_nil_of_length_eq_zero (by rw [hlen2]; omega)
                      rw [he] at hu
                      simp [trms] at hu
                    · refine ⟨⟨g, (q + 1) * 3, none⟩, if_neg hcq, rfl, fun j u hu => ?_⟩
                      have := hcA _ _ (trms_drop ls (q + 1) j u hq3 hu)
                      rw [← this]
                      congr 1
                      unfold Addr.add
                      split
                      · next h0 => subst h0; rfl
                      · rfl
                  clear hsum2 hfl2 hlen3 hft hfl hsum hy hp hf1 hf3 hl1 hl3 hrowL hrowM h2 l2 hXl hXX hNN hcA
                  go_region_law (first
                    | (refine step_append_t (by rfl) _ _ (by rfl) w6.heap.size (.slice none 0 0) [] (ls.take q) (by rfl) (OwnT.nil _ _) ⟨g, 0, none⟩ q cap (by rfl) hlen1 hnews1 hb63 hszw ?_; intro v1 wB hownB hgrowB hatB)
                    | (refine step_append_t (by rfl) _ _ (by rfl) w6.heap.size v1 (ls.take q) (ls.drop (q + 1)) (by rfl) hownB ad (n - (q + 1)) (cap - (q + 1)) (by rfl) hlen2 (fun j u hu => (World.cell?_of_block (hgrowB.block _ (by rw [add_block, hadg]; exact hrgl) (by simp [Value.ownBlock]))).trans (hnews2 j u hu)) hb64 (Nat.le_trans hszw hgrowB.size) ?_; intro v2 wC hownC hgrowC hatC))
                  have hgB : WA.drew.grownBy wB none := hgrowB
                  have hrB := (hrA.grown hbase (⟨rfl, rfl, rfl, Nat.le_refl _, fun _ _ _ => rfl⟩ : WA.grownBy WA.drew none)).grown hbase hgB
                  have hrC := hrB.newLeft hbase hgrowC (fun k e => (hownB.lt k e).1) hownC
                  have hTC : wC.heap[gt]? = some (.cells #[.int .u64 (t.a : Nat), .int .u64 (t.b : Nat), .int .i64 t.n] 56 (0, 0)) := by
                    have hsB := hgB.size
                    have hgd : gt < WA.drew.heap.size := hgs
                    rw [hgrowC.block gt (by omega) (fun e => by
                      rcases hatB with h0 | h0
                      · rw [h0] at e; cases e
                      · rw [h0] at e; injection e with e; omega), hgB.block gt hgd (by simp)]
                    exact hT
                  clear hgB hrB hgrowB hgrowC hatB hatC hownB hownC hnews2 hif hadg hrA hT
                  go_wp2_with fail
                  go_meet
                  case rel => exact ⟨hrC, hTC⟩
                case rest =>
                  obtain ⟨hr, hTc⟩ := hcut
                  clear hrA hT hcA hnews1 hszA hgs hrgl hszw hqn hqn1 hncap hwr hq10 hq11 hq1n hq3 hlen1 hlen2 hb63 hb64
                  generalize ls.take q ++ ls.drop (q + 1) = ls' at *
                  go_upto_if 84 with fail
                  go_cut [] from 51 to 105 (fun wx => ∃ y2 p2 : Int, OrdRel w w6 wx bx (bx + 1) (bx + 1 + 1) u10 ls' X y2 p2 ∧ y2 - p2 = y - p ∧ y2.natAbs ≤ y.natAbs + KT ∧ p2.natAbs ≤ p.natAbs + KT ∧ wx.heap[gt]? = some (.cells #[.int .u64 (t.a : Nat), .int .u64 (t.b : Nat), .int .i64 t.n] 56 (0, 0)))
                  case first =>
                    by_cases him : i0 < M.length
                    · obtain ⟨t2, ht2⟩ : ∃ t2, M[i0]? = some t2 := ⟨M[i0]'him, List.getElem?_eq_getElem _⟩
                      obtain ⟨hft2, b2, o2, rfl, d0, d1, d2⟩ := hr.cells hrowM i0 t2 ht2
                      have him1 : (i0 : Int) < (M.length : Int) := by omega
                      have him2 : decide ((i0 : Int) < (M.length : Int)) = true := by simp; omega
                      have hv2 := valT_lt t2 hft2
                      have hgl := gath_le i0 (by omega)
                      have hKL := KT_LIM
                      have hin1 := into_fine wc (bx + 1) t2 false y hr.ay hft2 (by show (y + valT t2).natAbs < LIM; omega)
                      have hin2 : ∀ w2 : World, AccIs w2 (bx + 1 + 1) (some p) → _ := fun w2 h => into_fine w2 (bx + 1 + 1) t2 false p h hft2 (by show (p + valT t2).natAbs < LIM; omega)
                      clear hKL hgl
                      go_wp2_with fail
                      refine hin1.mono ?_
                      rintro e w8 ⟨rfl, ha8, hg8⟩
                      have hr8 := hr.inY hbase hg8 ha8
                      have hin2' := hin2 w8 hr8.ap
                      obtain ⟨_, b3, o3, hb3, f0, f1, f2⟩ := hr8.cells hrowM i0 t2 ht2
                      injection hb3 with hb3
                      injection hb3 with hb31 hb32
                      subst hb31
                      subst hb32
                      have hb5 := hbase.p5
                      have hT8 := (hg8.block gt (Array.getElem?_eq_some_iff.1 hTc).1 (by simp; omega)).trans hTc
                      clear hin1 hin2 hr ha8 hg8 d0 d1 d2 hTc
                      go_wp2_with fail
                      refine hin2'.mono ?_
                      rintro e w9 ⟨rfl, ha9, hg9⟩
                      have hr9 := hr8.inP hbase hg9 ha9
                      have hT9 := (hg9.block gt (Array.getElem?_eq_some_iff.1 hT8).1 (by simp; omega)).trans hT8
                      clear hin2' hr8 ha9 hg9 f0 f1 f2 hT8
                      go_wp2_with fail
                      go_meet
                      case rel =>
                        refine ⟨_, _, hr9, ?_, ?_, ?_, hT9⟩
                        · show y + valT t2 - (p + valT t2) = y - p
                          omega
                        · show (y + valT t2).natAbs ≤ y.natAbs + KT
                          omega
                        · show (p + valT t2).natAbs ≤ p.natAbs + KT
                          omega
                    · have him2 : decide ((i0 : Int) < (M.length : Int)) = false := by simp; omega
                      go_wp2_with fail
                      go_meet
                      case rel => exact ⟨y, p, hr, rfl, by omega, by omega, hTc⟩
                  case rest =>
                    obtain ⟨y2, p2, hr3, hyp, hy2, hp2, hT3⟩ := hcut
                    clear hr hTc
                    have hv := valT_lt t hft
                    have hgl := gath_le i0 (by omega)
                    have hgn := gath_next i0
                    have hKL := KT_LIM
                    obtain ⟨f0, f1, f2⟩ : wc.cell? ⟨gt, 0, none⟩ = some (.int .u64 (t.a : Nat)) ∧ wc.cell? ⟨gt, 1, none⟩ = some (.int .u64 (t.b : Nat)) ∧ wc.cell? ⟨gt, 2, none⟩ = some (.int .i64 t.n) := by
                      refine ⟨?_, ?_, ?_⟩ <;> (rw [cell_of_row _ _ _ _ _ _ hT3]; rfl)
                    have hinP := into_fine wc (bx + 1 + 1) t true p2 hr3.ap hft (by show (p2 - valT t).natAbs < LIM; omega)
                    have hinY := into_fine wc (bx + 1) t false y2 hr3.ay hft (by show (y2 + valT t).natAbs < LIM; omega)
                    clear hKL hgl
                    have h3 : Int.tmod (i0 : Int) 3 = 0 ∨ Int.tmod (i0 : Int) 3 = 1 ∨ Int.tmod (i0 : Int) 3 = 2 := by
                      have e1 := Int.tmod_nonneg (3 : Int) (show (0 : Int) ≤ (i0 : Int) by omega)
                      have e2 := Int.tmod_lt_of_pos (i0 : Int) (show (0 : Int) < 3 by decide)
                      omega
                    rcases h3 with h3 | h3 | h3
                    · clear hinP
                      go_wp2_with fail
                      refine hinY.mono ?_
                      rintro e w8 ⟨rfl, ha8, hg8⟩
                      have hr8 := hr3.inY hbase hg8 ha8
                      clear hinY ha8 hg8
                      go_wp2_with fail
                      go_roundw
                      case rel => exact ⟨i0 + 1, ls', y2 + valT t, p2, by go_num, hr8, by omega, hfl2, by omega, by omega, by omega⟩
                      case measure => simp [intOf]; omega
                    · clear hinY
                      go_wp2_with fail
                      refine hinP.mono ?_
                      rintro e w8 ⟨rfl, ha8, hg8⟩
                      have hr8 := hr3.inP hbase hg8 ha8
                      clear hinP ha8 hg8
                      go_wp2_with fail
                      go_roundw
                      case rel => exact ⟨i0 + 1, ls', y2, p2 - valT t, by go_num, hr8, by omega, hfl2, by omega, by omega, by omega⟩
                      case measure => simp [intOf]; omega
                    · clear hinP
                      go_wp2_with fail
                      refine hinY.mono ?_
                      rintro e w8 ⟨rfl, ha8, hg8⟩
                      have hr8 := hr3.inY hbase hg8 ha8
                      clear hinY ha8 hg8
                      go_wp2_with fail
                      go_roundw
                      case rel => exact ⟨i0 + 1, ls', y2 + valT t, p2, by go_num, hr8, by omega, hfl2, by omega, by omega, by omega⟩
                      case measure => simp [intOf]; omega
end Go.Proofs.YtopilodakphhgaaDoor
