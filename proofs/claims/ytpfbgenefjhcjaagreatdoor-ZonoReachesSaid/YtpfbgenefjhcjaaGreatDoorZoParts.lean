/- law10.parts, directions, product, Point. -/
import Derived.Test.YtpfbgenefjhcjaaGreatDoorZoPart
namespace Go.Proofs.YtpfbgenefjhcjaaGreatDoor
set_option linter.unusedVariables false
set_option linter.unusedSimpArgs false
open Go Go.RowKit
set_option maxRecDepth 100000
set_option maxHeartbeats 2000000 in
theorem directions_any (w : World) (A : Option Addr) (n cap : Nat) (us : List Nat) (N : Int) (h : FR w A us) (hs : Small us) (hl : us.length = n) (hN : N ≤ 1000000) (hm : n ≤ MAXF) :
    Calls Tryz.prog 34 #[.slice A n cap, .int .i64 N] w fun e w' => TellsNums w us (rowD us N) e w' := by
  unfold MAXF at hm
  have HL := Lib.hid hl
  by_cases hNn : (n : Int) = N
  · subst hNn
    have hn : n ≤ us.length := by omega
    clear hl
    go_enter Tryz.func34, Tryz.ntmps34
    go_wp2_with fail
    go_loopw [6, 7] (fun v i wr => ∃ k : Nat, k ≤ n ∧ i = .int .i64 (k : Nat) ∧ (us.take k).all isNum = true ∧ ∃ ns, NAcc (-1074) 971 w.heap.size wr v ns ((us.take k).map fz) ∧ Below w.heap.size w wr) (fun _ i _ => n - (intOf i).toNat)
    case atStart => exact ⟨0, Nat.zero_le _, rfl, rfl, _, NAcc.nil _ _ _ _, Below.refl _ _⟩
    case round =>
      obtain ⟨k, hk, rfl, hall, ns, hr, hb⟩ := hrel
      have HA := Lib.hid hall
      clear hall
      by_cases hlt : k < n
      · have hlt' : (k : Int) < (n : Int) := by omega
        obtain ⟨u, hu⟩ := get_some us k (by omega)
        obtain ⟨b, o, rfl, hbb, hc⟩ := h.cell hb k u hu
        have huB := hs.at k u hu
        have hul : (u : Int) ≤ 18446744073709551615 := by unfold B64 at huB; omega
        have HU := Lib.hid hu
        have HV := Lib.hid (take_more us k u hu)
        have hnl : ns.length ≤ k := by rw [hr.len, List.length_map]; exact List.length_take_le _ _
        clear hu
        by_cases he : fexp u = 2047
        · have hz : rowD us (n : Int) = false := by unfold rowD; rw [all_none isNum us k u HU.out (by unfold isNum; rw [he]; rfl)]; rfl
          have HZ := Lib.hid hz
          have hof := Of_none wr u huB he
          have hbt := bits_nat u
          clear hz he huB
          go_wp2_with fail
          refine (hbt _).mono ?_
          rintro e w' ⟨rfl, rfl⟩
          go_wp2_with fail
          refine hof.mono ?_
          rintro e w2 ⟨rfl, hb2⟩
          clear hr
          go_wp2_with fail
          go_ret2
          exact Or.inr ⟨HZ.out, rfl, (hb.trans (hb2.mono hb.size)).alloc (Nat.le_trans hb.size hb2.size) _⟩
        · have hof := ofF u he wr huB
          have HE := Lib.hid he
          have hbt := bits_nat u
          clear he huB
          go_wp2_with fail
          refine (hbt _).mono ?_
          rintro e w' ⟨rfl, rfl⟩
          go_wp2_with fail
          refine hof.mono ?_
          rintro e w2 ⟨x, rfl, hx, hb2⟩
          have hr2 := hr.below hb2
          have hbb2 := hb.trans (hb2.mono hb.size)
          have hsz := hbb2.size
          have hb3 := below_alloc w2 (.cells #[.bool x.neg, .slice x.A x.n x.cap, .int .i64 x.E] 70)
          have hb4 := below_alloc (w2.alloc (.cells #[.bool x.neg, .slice x.A x.n x.cap, .int .i64 x.E] 70)) (.cells #[.bool x.neg, .slice x.A x.n x.cap, .int .i64 x.E] 70)
          have hA4 := (hr2.below hb3).below hb4
          have hx4 := (hx.below hb3).below hb4
          have hnew := heap_alloc_new (w2.alloc (.cells #[.bool x.neg, .slice x.A x.n x.cap, .int .i64 x.E] 70)) (.cells #[.bool x.neg, .slice x.A x.n x.cap, .int .i64 x.E] 70)
          rw [show (w2.alloc (.cells #[.bool x.neg, .slice x.A x.n x.cap, .int .i64 x.E] 70)).heap.size = w2.heap.size + 1 by simp] at hnew
          have hsz4 : w.heap.size ≤ ((w2.alloc (.cells #[.bool x.neg, .slice x.A x.n x.cap, .int .i64 x.E] 70)).alloc (.cells #[.bool x.neg, .slice x.A x.n x.cap, .int .i64 x.E] 70)).heap.size := by simp; omega
          have hbel4 := (hbb2.trans (hb3.mono hsz)).trans (hb4.mono (by simp; omega))
          clear hr hb2 hof hr2 hx hb3 hb4
          go_wp2_with (at_builtin; refine wpList_append_g NV.cells 3 40 (.agg #[.bool false, .slice none 0 0, .int .i64 0]) 58 70 Tryz.underlying58 infoNum rfl (by decide) (fun _ => rfl) rfl (.tmp 30) (.tmp 32) rfl w.heap.size _ ns [x] rfl hA4.own ⟨w2.heap.size + 1, 0, none⟩ 1 1 rfl rfl (World.news_of_block hnew) (by unfold maxLen; omega) (by omega) hsz4 (fun y hy u hu => by simp at hy; subst hy; simp [NV.cells] at hu; rcases hu with rfl | rfl | rfl <;> rfl) ?_; intro v5 w5 ho5 hg5 _; have hA5 := hA4.add hx4 ho5 hg5; have hbel5 := hbel4.trans (below_ownG hA4.own hg5 hsz4); clear ho5 hg5 hA4 hx4 hnew hbel4 hbb2)
          rw [show (us.take k).map fz ++ [fz u] = (us.take (k + 1)).map fz by rw [HV.out, List.map_append]; rfl] at hA5
          go_roundw
          case rel => exact ⟨k + 1, by omega, by go_num, all_take _ _ _ _ HU.out HA.out (by unfold isNum; rw [bne_iff_ne]; exact HE.out), _, hA5, hbel5⟩
          case measure => simp [intOf]; omega
      · obtain rfl : k = n := by omega
        have hlt' : decide ((k : Int) < (k : Nat)) = false := by simp
        have hall2 : us.all isNum = true := by
          have h1 := HA.out
          rw [List.take_of_length_le (by have := HL.out; omega)] at h1
          exact h1
        have hz : rowD us (k : Int) = true := by unfold rowD; rw [hall2, HL.out]; simp
        have HZ := Lib.hid hz
        rw [List.take_of_length_le (by have := HL.out; omega)] at hr
        obtain ⟨A', cap', hv, hR⟩ := hr.row
        subst hv
        have HR := Lib.hid hR
        clear hz hall2 hR hr
        rw [List.length_map] at *
        go_wp2_with fail
        go_ret2
        exact Or.inl ⟨HZ.out, _, _, by simp, HR.out, hb⟩
  · have hd : ((n : Int) == N) = false := by rw [beq_eq_false_iff_ne]; exact hNn
    have hz : rowD us N = false := by unfold rowD; rw [hl, hd]; simp
    have HZ := Lib.hid hz
    clear hz hl
    go_enter Tryz.func34, Tryz.ntmps34
    go_wp2_with fail
    go_ret2
    exact Or.inr ⟨HZ.out, rfl, Below.refl _ _⟩
def partsZ (l : List Int) (fr n : Nat) (nb : Int) : List Int := (List.range n).map fun k => partZ l (fr + k) nb
theorem partsZ_succ (l : List Int) (fr n : Nat) (nb : Int) : partsZ l fr (n + 1) nb = partsZ l fr n nb ++ [partZ l (fr + n) nb] := by
  unfold partsZ
  rw [List.range_succ, List.map_append]
  rfl
theorem partsZ_length (l : List Int) (fr n : Nat) (nb : Int) : (partsZ l fr n nb).length = n := by
  unfold partsZ
  rw [List.length_map, List.length_range]
set_option maxHeartbeats 2000000 in
theorem parts_any (w : World) (A : Option Addr) (cap : Nat) (l : List Int) (fr n : Nat) (nb : Int) (h : IR w A l) (hfr : fr ≤ 4294967296) (hn : n ≤ 4294967296) :
    Calls Tryz.prog 36 #[.slice A l.length cap, .int .i64 (fr : Int), .int .i64 (n : Int), .int .i64 nb] w fun e w' => ∃ A' cap', e = .returned (.slice A' n cap') ∧ NLt (-16) 0 w' A' cap' (partsZ l fr n nb) ∧ Below w.heap.size w w' := by
  go_enter Tryz.func36, Tryz.ntmps36
  go_wp2_with fail
  go_loopw [9, 10] (fun v i wr => ∃ (k : Nat) (ns : List NV), k ≤ n ∧ i = .int .i64 (k : Nat) ∧ NAcc (-16) 0 w.heap.size wr v ns (partsZ l fr k nb) ∧ Below w.heap.size w wr) (fun _ i _ => n - (intOf i).toNat)
  case atStart => exact ⟨0, _, Nat.zero_le _, rfl, NAcc.nil _ _ _ _, Below.refl _ _⟩
  case round =>
    obtain ⟨k, ns, hk, rfl, hr, hb⟩ := hrel
    by_cases hlt : k < n
    · have hlt' : (k : Int) < (n : Int) := by omega
      have hpa := part_any wr A cap l (fr + k) nb (h.below (Nat.le_refl _) hb)
      rw [show ((fr + k : Nat) : Int) = (fr : Int) + (k : Int) by omega] at hpa
      have hnl : ns.length ≤ k := by rw [hr.len, partsZ_length]; exact Nat.le_refl _
      have HS := Lib.hid (partsZ_succ l fr k nb)
      generalize partsZ l fr k nb = zs at *
      generalize partZ l (fr + k) nb = z at *
      go_wp2_with fail
      refine hpa.mono ?_
      rintro e w2 ⟨x, rfl, hx, hb2⟩
      have hr2 := hr.below hb2
      have hbb2 := hb.trans (hb2.mono hb.size)
      have hb3 := below_alloc w2 (.cells #[.bool x.neg, .slice x.A x.n x.cap, .int .i64 x.E] 70)
      have hA4 := hr2.below hb3
      have hx4 := hx.below hb3
      have hnew := heap_alloc_new w2 (.cells #[.bool x.neg, .slice x.A x.n x.cap, .int .i64 x.E] 70)
      have hbel4 := hbb2.trans (hb3.mono hbb2.size)
      have hsz4 := hbel4.size
      clear hr hb2 hpa hr2 hx hb3 hb hbb2
      go_wp2_with (at_builtin; refine wpList_append_g NV.cells 3 40 (.agg #[.bool false, .slice none 0 0, .int .i64 0]) 58 70 Tryz.underlying58 infoNum rfl (by decide) (fun _ => rfl) rfl (.tmp 16) (.tmp 23) rfl w.heap.size _ ns [x] rfl hA4.own ⟨w2.heap.size, 0, none⟩ 1 1 rfl rfl (World.news_of_block hnew) (by unfold maxLen; omega) (by omega) hsz4 (fun y hy u hu => by simp at hy; subst hy; simp [NV.cells] at hu; rcases hu with rfl | rfl | rfl <;> rfl) ?_; intro v5 w5 ho5 hg5 _; have hA5 := hA4.add hx4 ho5 hg5; have hbel5 := hbel4.trans (below_ownG hA4.own hg5 hsz4); clear ho5 hg5 hA4 hx4 hnew hbel4)
      go_roundw
      case rel => exact ⟨k + 1, _, by omega, by go_num, (by rw [HS.out]; exact hA5), hbel5⟩
      case measure => simp [intOf]; omega
    · obtain rfl : k = n := by omega
      have hlt' : decide ((k : Int) < (k : Nat)) = false := by simp
      obtain ⟨A', cap', hv, hR⟩ := hr.row
      rw [partsZ_length] at hv
      subst hv
      have HR := Lib.hid hR
      clear hR hr
      go_wp2_with fail
      go_ret
      exact ⟨_, _, rfl, HR.out, hb⟩
theorem directions_yes (w : World) (A : Option Addr) (n cap : Nat) (us : List Nat) (N : Int) (h : FR w A us) (hs : Small us) (hl : us.length = n) (hN : N ≤ 1000000) (hm : n ≤ MAXF) (hr : rowD us N = true) :
    Calls Tryz.prog 34 #[.slice A n cap, .int .i64 N] w fun e w' => ∃ A' cap', e = .returned (.tuple #[.slice A' us.length cap', .bool true]) ∧ NLt (-1074) 971 w' A' cap' (us.map fz) ∧ Below w.heap.size w w' := by
  refine (directions_any w A n cap us N h hs hl hN hm).mono fun e w' ht => ?_
  rcases ht with ⟨_, A', cap', h1, h2, h3⟩ | ⟨h1, _⟩
  · exact ⟨A', cap', h1, h2, h3⟩
  · rw [hr] at h1; cases h1
theorem directions_no (w : World) (A : Option Addr) (n cap : Nat) (us : List Nat) (N : Int) (h : FR w A us) (hs : Small us) (hl : us.length = n) (hN : N ≤ 1000000) (hm : n ≤ MAXF) (hr : rowD us N = false) :
    Calls Tryz.prog 34 #[.slice A n cap, .int .i64 N] w fun e w' => e = .returned (.tuple #[.slice none 0 0, .bool false]) ∧ Below w.heap.size w w' := by
  refine (directions_any w A n cap us N h hs hl hN hm).mono fun e w' ht => ?_
  rcases ht with ⟨h1, _⟩ | ⟨_, h1, h2⟩
  · rw [hr] at h1; cases h1
  · exact ⟨h1, h2⟩
end Go.Proofs.YtpfbgenefjhcjaaGreatDoor
