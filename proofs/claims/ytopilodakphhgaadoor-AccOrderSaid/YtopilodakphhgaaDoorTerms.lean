/- ambitlaw3.terms: the terms of numbers, at most 200 looked at, each power brought below 65. -/
import Derived.Test.YtopilodakphhgaaDoorTermLaws
import Derived.Deep.RegionHeld3
import Derived.Deep.AppendLies
namespace Go.Proofs.YtopilodakphhgaaDoor
set_option linter.unusedVariables false
set_option linter.unusedSimpArgs false
open Go Go.RowKit
set_option maxRecDepth 100000
def okT (t : Trm) : Bool := fexp t.a != 2047 && fexp t.b != 2047
def cutT (t : Trm) : Trm := ⟨t.a, t.b, t.n.tmod 65⟩
def pickT (ts : List Trm) : List Trm := (ts.filter okT).map cutT
theorem pickT_next (ts : List Trm) (k : Nat) (t : Trm) (h : ts[k]? = some t) : pickT (ts.take (k + 1)) = pickT (ts.take k) ++ (bif okT t then [cutT t] else []) := by
  rw [List.take_add_one, h]
  unfold pickT
  rw [List.filter_append, List.map_append]
  show _ ++ List.map cutT (List.filter okT [t]) = _
  rw [List.filter_cons]
  cases okT t <;> rfl
theorem pickT_length (ts : List Trm) (k : Nat) : (pickT (ts.take k)).length ≤ k := by
  unfold pickT
  rw [List.length_map]
  have := List.length_filter_le okT (ts.take k)
  rw [List.length_take] at this
  omega
set_option maxHeartbeats 8000000 in
theorem terms_any (w : World) (A : Option Addr) (n cap : Nat) (ts : List Trm) (hrow : TRow w A ts) (hls : ts.length = n) (hc : n ≤ cap) (hm : cap ≤ maxLen) :
    Calls Tryd.prog 23 #[.slice A n cap] w fun e w' => ∃ v, e = .returned v ∧ OwnT w' w.heap.size v (pickT (ts.take 200)) ∧ Below w.heap.size w w' := by
  have hNn : n = ts.length := hls.symm
  have hnl : (n : Int) ≤ 9223372036854775807 := by unfold maxLen at hm; omega
  have HL := Lib.hid hls
  obtain ⟨i0, hi0, hz0, hz1, hz2⟩ := info_parts infoT
  clear hls
  go_enter Tryd.func23, Tryd.ntmps23
  go_wp2_with fail
  go_loopw [3, 4] (fun v i wr => ∃ k : Nat, k ≤ n ∧ k ≤ 200 ∧ i = .int .i64 (k : Nat) ∧ OwnT wr w.heap.size v (pickT (ts.take k)) ∧ Below w.heap.size w wr) (fun _ i _ => 200 - (intOf i).toNat)
  case atStart => exact ⟨0, by omega, by omega, rfl, World.ownsRow_nil _ _ _ _, Below.refl _ _⟩
  case round =>
    obtain ⟨k, hk, hk2, rfl, hr, hbl⟩ := hrel
    by_cases hlt : k < n ∧ k < 200
    · obtain ⟨hlt1, hlt2⟩ := hlt
      have hlt1' : (k : Int) < (n : Int) := by omega
      have hlt2' : (k : Int) < 200 := by omega
      obtain ⟨t, ht⟩ : ∃ t, ts[k]? = some t := ⟨ts[k]'(by omega), List.getElem?_eq_getElem _⟩
      obtain ⟨b, o, rfl, hbk, c0, c1, c2, hA, hB, hn0, hn1⟩ := hrow.at hbl k t ht
      have HV := Lib.hid (pickT_next ts k t ht)
      have hlen := pickT_length ts k
      have hnum := number_law t.a hA
      have hnum2 := number_law t.b hB
      have hal : (t.a : Int) ≤ 18446744073709551615 := by unfold B64 at hA; omega
      have hbl' : (t.b : Int) ≤ 18446744073709551615 := by unfold B64 at hB; omega
      have hk0 : (0 : Int) ≤ (k : Int) := by omega
      by_cases ha : fexp t.a = 2047
      · have hn' : (fexp t.a != 2047) = false := by rw [ha]; rfl
        have hok : okT t = false := by unfold okT; rw [hn']; rfl
        rw [hn'] at hnum
        clear ha hn' hNn hk hk2 hA hB
        go_wp2_with fail
        refine (hnum _).mono ?_
        rintro e w' ⟨rfl, rfl⟩
        go_wp2_with fail
        go_roundw
        case rel => exact ⟨k + 1, by omega, by omega, by go_num, by rw [HV.out, hok]; simpa using hr, hbl⟩
        case measure => simp [intOf]; omega
      · have hn' : (fexp t.a != 2047) = true := by rw [bne_iff_ne]; exact ha
        rw [hn'] at hnum
        by_cases hb : fexp t.b = 2047
        · have hn2' : (fexp t.b != 2047) = false := by rw [hb]; rfl
          have hok : okT t = false := by unfold okT; rw [hn', hn2']; rfl
          rw [hn2'] at hnum2
          clear ha hn' hb hn2' hNn hk hk2 hA hB
          go_wp2_with fail
          refine (hnum _).mono ?_
          rintro e w' ⟨rfl, rfl⟩
          go_wp2_with fail
          refine (hnum2 _).mono ?_
          rintro e w' ⟨rfl, rfl⟩
          go_wp2_with fail
          go_roundw
          case rel => exact ⟨k + 1, by omega, by omega, by go_num, by rw [HV.out, hok]; simpa using hr, hbl⟩
          case measure => simp [intOf]; omega
        · have hn2' : (fexp t.b != 2047) = true := by rw [bne_iff_ne]; exact hb
          have hok : okT t = true := by unfold okT; rw [hn', hn2']; rfl
          rw [hn2'] at hnum2
          clear ha hn' hb hn2' hNn hk hk2 hA hB
          go_wp2_with fail
          refine (hnum _).mono ?_
          rintro e w' ⟨rfl, rfl⟩
          go_wp2_with fail
          refine (hnum2 _).mono ?_
          rintro e w' ⟨rfl, rfl⟩
          go_wp2_with fail
          have hsz := hbl.size
          have hne : some b ≠ Value.ownBlock u3 := fun e => by have := (hr.lt b e.symm).1; omega
          have hlB : (pickT (ts.take k)).length + 1 ≤ 1000000 := by omega
          go_region_held3 (fun w' => w'.cell? ⟨b, o + k * 3, none⟩ = some (.int .u64 (t.a : Nat)) ∧ w'.cell? ⟨b, o + k * 3 + 1, none⟩ = some (.int .u64 (t.b : Nat)) ∧ w'.cell? ⟨b, o + k * 3 + 2, none⟩ = some (.int .i64 t.n))
            (first
              | go_keep
              | (go_split_ands
                 refine ⟨?_, ?_, ?_⟩ <;> (rw [hgrow.cell_far _ (by simp; omega) hne]; assumption)))
            ((refine step_append_t (by rfl) _ _ (by rfl) w.heap.size _ (pickT (ts.take k)) [cutT t] (by rfl) ((World.ownsRow.alloc hr _).drew) ⟨w'.heap.size, 0, none⟩ 1 1 (by rfl) rfl (World.news_of_block (cs := #[.int .u64 (t.a : Nat), .int .u64 (t.b : Nat), .int .i64 (t.n.tmod 65)]) (t := 56) (fr := (0, 0)) (heap_alloc_new _ _)) hlB (by simp; omega) ?_; intro v2 w2 hown2 hgrow hat))
          have hbl2 := ((hbl.alloc hsz (.cells #[.int .u64 (t.a : Nat), .int .u64 (t.b : Nat), .int .i64 (t.n.tmod 65)] 56)).drew).trans (below_ownT ((World.ownsRow.alloc hr _).drew) hgrow (by simp; omega))
          clear hgrow hat
          go_wp2_with fail
          go_roundw
          case rel => exact ⟨k + 1, by omega, by omega, by go_num, by rw [HV.out, hok]; exact hown2, hbl2⟩
          case measure => simp [intOf]; omega
    · have hfin : pickT (ts.take 200) = pickT (ts.take k) := by
        by_cases h200 : k = 200
        · rw [h200]
        · have hkn : k = n := by omega
          rw [List.take_of_length_le (show ts.length ≤ 200 by omega), List.take_of_length_le (show ts.length ≤ k by omega)]
      by_cases hkn : k < n
      · have hkn' : (k : Int) < (n : Int) := by omega
        have hk200 : decide ((k : Int) < 200) = false := by simp; omega
        clear hlt
        go_wp2_with fail
        go_ret
        exact ⟨_, rfl, by rw [hfin]; exact hr, hbl⟩
      · have hkn' : decide ((k : Int) < (n : Int)) = false := by simp; omega
        clear hlt
        go_wp2_with fail
        go_ret
        exact ⟨_, rfl, by rw [hfin]; exact hr, hbl⟩
end Go.Proofs.YtopilodakphhgaaDoor
