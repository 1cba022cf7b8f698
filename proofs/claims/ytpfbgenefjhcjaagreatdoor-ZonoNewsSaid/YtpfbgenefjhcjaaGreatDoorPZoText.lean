/-
  law10.text: the bits of numbers, as bytes.
-/
import Derived.Test.YtpfbgenefjhcjaaGreatDoorPZoOwns
import Derived.Laws.BytesString
namespace Go.Proofs.YtpfbgenefjhcjaaGreatDoor
set_option linter.unusedVariables false
set_option linter.unusedSimpArgs false
open Go Go.RowKit
set_option maxRecDepth 100000
def cB (n : Int) : Value := .int .u8 n
theorem infoU8 : (Tryz.prog.info? 5).map (fun i => (i.zero, i.size, i.bytes)) = some (some (.int .u8 0), 1, 1) := by kernel_rfl
def byteZ (u j : Nat) : Int := (u : Int) / 2 ^ (8 * j) % 256
def bytesTo (u j : Nat) : List Int := (List.range j).map (byteZ u)
def textL (us : List Nat) : List Int := us.flatMap fun u => bytesTo u 8
theorem textL_snoc (us : List Nat) (u : Nat) : textL (us ++ [u]) = textL us ++ bytesTo u 8 := by unfold textL; rw [List.flatMap_append]; simp
theorem bytesTo_succ (u j : Nat) : bytesTo u (j + 1) = bytesTo u j ++ [byteZ u j] := by unfold bytesTo; rw [List.range_succ, List.map_append]; rfl
theorem bytesTo_length (u j : Nat) : (bytesTo u j).length = j := by unfold bytesTo; simp
theorem textL_length (us : List Nat) : (textL us).length = 8 * us.length := by
  induction us with
  | nil => rfl
  | cons u r ih =>
    have e : textL (u :: r) = bytesTo u 8 ++ textL r := rfl
    rw [e, List.length_append, ih, bytesTo_length, List.length_cons]
    omega
abbrev BO (base : Nat) (w : World) (v : Value) (bs : List Int) : Prop := OwnG (fun x => [cB x]) 5 1 w base v bs
set_option maxHeartbeats 4000000 in
theorem text_any (w : World) (A : Option Addr) (cap : Nat) (us : List Nat) (h : FR w A us) (hs : Small us) (hm : us.length ≤ MAXF) :
    Calls Tryz.prog 32 #[.slice A us.length cap] w fun e w' => ∃ B c, e = .returned (.slice B (textL us).length c) ∧ BO w.heap.size w' (.slice B (textL us).length c) (textL us) ∧ Below w.heap.size w w' := by
  unfold MAXF at hm
  go_enter Tryz.func32, Tryz.ntmps32
  go_wp2_with fail
  go_loopw [3, 4] (fun v i wr => ∃ k : Nat, k ≤ us.length ∧ i = .int .i64 (k : Nat) ∧ BO w.heap.size wr v (textL (us.take k)) ∧ Below w.heap.size w wr) (fun _ i _ => us.length - (intOf i).toNat)
  case atStart => exact ⟨0, Nat.zero_le _, rfl, OwnG.nil _ _, Below.refl _ _⟩
  case round =>
    obtain ⟨k, hk, rfl, hr, hb⟩ := hrel
    by_cases hlt : k < us.length
    · have hlt' : (k : Int) < (us.length : Int) := by omega
      obtain ⟨u, hu⟩ := get_some us k (by omega)
      obtain ⟨b, o, rfl, hbb, hc⟩ := h.cell hb k u hu
      have hbt := bits_nat u
      have hu64 := hs.at k u hu
      have hu0 : (0 : Int) ≤ (u : Int) := by omega
      have hul : (u : Int) ≤ 18446744073709551615 := by unfold B64 at hu64; omega
      have HT := Lib.hid (take_more us k u hu)
      have htl : (textL (us.take k)).length ≤ 140737488351224 := by rw [textL_length, List.length_take]; omega
      clear hu
      go_wp2_with fail
      refine (hbt _).mono ?_
      rintro e w' ⟨rfl, rfl⟩
      clear hc
      go_wp2_with fail
      go_loopw [3, 6] (fun v i wr => ∃ j : Nat, j ≤ 8 ∧ i = .int .i64 (j : Nat) ∧ BO w.heap.size wr v (textL (us.take k) ++ bytesTo u j) ∧ Below w.heap.size w wr) (fun _ i _ => 8 - (intOf i).toNat)
      case atStart => exact ⟨0, Nat.zero_le _, rfl, by rw [show bytesTo u 0 = [] from rfl, List.append_nil]; exact hr, hb⟩
      case round =>
        clear hr hb
        obtain ⟨j, hj, rfl, hr, hb⟩ := hrel
        by_cases hltj : j < 8
        · have hltj' : (j : Int) < 8 := by omega
          have hrA := hr.alloc (.cells #[.int .u8 ((u : Int) / 2 ^ (8 * j) % 256)] 5)
          have hcA := cell_new0 wr (.int .u8 ((u : Int) / 2 ^ (8 * j) % 256)) 5
          have hbA := hb.alloc hb.size (.cells #[.int .u8 ((u : Int) / 2 ^ (8 * j) % 256)] 5)
          have hln : (textL (us.take k) ++ bytesTo u j).length ≤ 140737488351232 := by rw [List.length_append, bytesTo_length]; omega
          go_wp2_with (at_builtin; refine wpList_app1 cB 1 (.int .u8 0) 55 5 Tryz.underlying55 infoU8 rfl rfl (.tmp 22) (.tmp 28) rfl w.heap.size _ _ (byteZ u j) (.int .u8 ((u : Int) / 2 ^ (8 * j) % 256)) wr.heap.size rfl rfl hrA rfl rfl hcA (by omega) (by omega) hbA.size ?_; intro v9 w9 ho9 hg9 _)
          have hb9 := hbA.trans (below_ownG hrA hg9 hbA.size)
          rw [List.append_assoc, ← bytesTo_succ] at ho9
          go_roundw
          case rel => exact ⟨j + 1, by omega, by go_num, ho9, hb9⟩
          case measure => simp [intOf]; omega
        · obtain rfl : j = 8 := by omega
          rw [← textL_snoc, ← HT.out] at hr
          have hlt8 : decide (((8 : Nat) : Int) < 8) = false := by simp
          go_wp2_with fail
          go_roundw
          case rel => exact ⟨k + 1, by omega, by go_num, hr, hb⟩
          case measure => simp [intOf]; omega
    · obtain rfl : k = us.length := by omega
      have hlt' : decide (((us.length : Nat) : Int) < (us.length : Nat)) = false := by simp
      rw [List.take_of_length_le (Nat.le_refl _)] at hr
      obtain ⟨B, c, hv, _⟩ := hr.lat
      subst hv
      have HR := Lib.hid hr
      have hle := textL_length us
      obtain ⟨L, hL⟩ : ∃ L, (textL us).length = L := ⟨_, rfl⟩
      rw [hL] at HR hle ⊢
      have HL := Lib.hid hL
      clear hr hL
      go_wp2_with fail
      go_ret
      rw [HL.out]
      exact ⟨_, _, rfl, HR.out, hb⟩
/-- The text of bytes. -/
def strOf (bs : List Int) : ByteArray := bs.foldl (fun r n => r.push (UInt8.ofNat n.toNat)) ByteArray.empty
theorem text_str {base : Nat} {w : World} {v : Value} {bs : List Int} (h : BO base w v bs) : ∀ w1, Below w.heap.size w w1 → (convert 55 9 v).run Tryz.prog w1 = .ok (.string (strOf bs)) w1 := by
  intro w1 hb
  have h1 := h.below hb
  rcases h1.row with ⟨rfl, rfl⟩ | ⟨g, cap, rfl, _, hg, hn, hm, hc⟩
  · rw [run_convert_bytes_string w1 55 9 5 none 0 0 Tryz.underlying55 Tryz.underlying5 Tryz.underlying9]
    simp [Conv.bytesToString]
    rfl
  · rw [run_convert_bytes_string w1 55 9 5 (some ⟨g, 0, none⟩) bs.length cap Tryz.underlying55 Tryz.underlying5 Tryz.underlying9]
    refine run_bytesToString w1 ⟨g, 0, none⟩ bs.length cap bs ?_
    rw [flat_one] at hc
    have h2 := run_loadCells_list (P := Tryz.prog) (w := w1) ⟨g, 0, none⟩ (bs.map cB) (fun j v hv => by rw [addr_add, Nat.zero_add]; exact hc j v hv)
    rw [List.length_map] at h2
    exact h2
end Go.Proofs.YtpfbgenefjhcjaaGreatDoor
