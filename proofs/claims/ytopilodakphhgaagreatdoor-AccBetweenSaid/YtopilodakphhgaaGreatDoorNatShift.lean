/- math/big's rshVU (its Go twin): words shifted down. Laws on rows of words: copy, clear. (nat).rsh into a new row. math/big's lshVU (its Go twin): words shifted up. (nat).lsh, set, same, alias: into a new row. -/
import Derived.Test.YtopilodakphhgaaGreatDoorNatLow
import Derived.Laws.CopyOwn
import Derived.Lib.SliceRun
namespace Go.Proofs.YtopilodakphhgaaGreatDoor
set_option linter.unusedVariables false
set_option linter.unusedSimpArgs false
open Go Go.RowKit
set_option maxRecDepth 100000
theorem B64_two : B64 = 2 ^ 64 := rfl
theorem wd_shr (M q s j : Nat) (hs1 : 1 ≤ s) (hs : s ≤ 63) : wd (M / 2 ^ (64 * q + s)) j = (wd M (q + j) / 2 ^ s ||| wd M (q + j + 1) * 2 ^ (64 - s) % B64) := by
  have e1 : M / 2 ^ (64 * q + s) / B64 ^ j = M / B64 ^ (q + j) / 2 ^ s := by
    rw [B64_two, ← Nat.pow_mul, ← Nat.pow_mul, Nat.div_div_eq_div_mul, Nat.div_div_eq_div_mul, ← Nat.pow_add, ← Nat.pow_add]
    congr 2
    rw [Nat.mul_add]; omega
  have e2 : M / B64 ^ (q + j + 1) = M / B64 ^ (q + j) / B64 := by rw [Nat.pow_succ, Nat.div_div_eq_div_mul]
  unfold wd
  rw [e1, e2]
  generalize M / B64 ^ (q + j) = N
  have hB : B64 = 2 ^ s * 2 ^ (64 - s) := by rw [← Nat.pow_add, show s + (64 - s) = 64 by omega]; rfl
  have h1 : 0 < 2 ^ s := Nat.two_pow_pos s
  have h2 : 0 < 2 ^ (64 - s) := Nat.two_pow_pos _
  have h3 : N % B64 / 2 ^ s = N / 2 ^ s % 2 ^ (64 - s) := by rw [hB, Nat.mod_mul_right_div_self]
  have h4 : N / B64 % B64 * 2 ^ (64 - s) % B64 = 2 ^ (64 - s) * (N / B64 % 2 ^ s) := by
    rw [Nat.mod_mul_mod, Nat.mul_comm (N / B64)]
    conv => lhs; rw [hB, Nat.mul_comm (2 ^ s)]
    rw [Nat.mul_mod_mul_left, hB, Nat.mul_comm (2 ^ (64 - s)) (2 ^ s)]
  have h5 : N / 2 ^ s % B64 = N / 2 ^ s % 2 ^ (64 - s) + 2 ^ (64 - s) * (N / B64 % 2 ^ s) := by
    conv => lhs; rw [hB, Nat.mul_comm (2 ^ s), Nat.mod_mul]
    rw [Nat.div_div_eq_div_mul, ← hB]
  rw [h5, h3, h4, Nat.or_comm, ← Nat.two_pow_add_eq_or_of_lt (Nat.mod_lt _ h2), Nat.add_comm]
/-- The highest word: nothing comes from above. -/
theorem wd_shr_top (M q s n : Nat) (hs1 : 1 ≤ s) (hs : s ≤ 63) (h0 : 0 < n) (hM : M < B64 ^ (q + n)) : wd (M / 2 ^ (64 * q + s)) (n - 1) = wd M (q + n - 1) / 2 ^ s := by
  have h := wd_shr M q s (n - 1) hs1 hs
  have hz : wd M (q + (n - 1) + 1) = 0 := by
    unfold wd
    rw [show q + (n - 1) + 1 = q + n by omega, Nat.div_eq_of_lt hM]
    rfl
  rw [hz, Nat.zero_mul, Nat.zero_mod, Nat.or_zero, show q + (n - 1) = q + n - 1 by omega] at h
  exact h
theorem shr_val (M q s k : Nat) (hs1 : 1 ≤ s) (hs : s ≤ 63) : bits BinOp.or IntKind.u64 (((wd M (q + k) : Nat) : Int) / 2 ^ s) (IntKind.u64.wrap (((wd M (q + (k + 1)) : Nat) : Int) * 2 ^ (64 - s))) = (wd (M / 2 ^ (64 * q + s)) k : Nat) := by
  have e1 : (((wd M (q + k) : Nat) : Int) / 2 ^ s) = ((wd M (q + k) / 2 ^ s : Nat) : Int) := by rw [Int.natCast_ediv, Int.natCast_pow]; rfl
  have e2 : IntKind.u64.wrap (((wd M (q + (k + 1)) : Nat) : Int) * 2 ^ (64 - s)) = ((wd M (q + k + 1) * 2 ^ (64 - s) % B64 : Nat) : Int) := by
    rw [IntKind.wrap_u64, Int.natCast_emod, Int.natCast_mul, Int.natCast_pow]; rfl
  rw [e1, e2, u64_or_nat (wd M (q + k) / 2 ^ s) (wd M (q + k + 1) * 2 ^ (64 - s) % B64) (Nat.lt_of_le_of_lt (Nat.div_le_self _ _) (wd_lt M (q + k))) (show _ < B64 from Nat.mod_lt _ B64_pos), wd_shr M q s k hs1 hs]
theorem run_rshVU (args : Array Value) (w : World) : (callFunc 101 args).run Tryz.prog w = .ok (.enter 77 args) w := by kernel_rfl
theorem and63 (s : Nat) (hs : s ≤ 63) : bits .and .u64 (s : Int) 63 = (s : Nat) := by
  have h := u64_and_nat s 63 (by omega) (by decide)
  rw [show s &&& 63 = s % 64 from Nat.and_two_pow_sub_one_eq_mod _ 6, Nat.mod_eq_of_lt (by omega)] at h
  exact h
set_option maxHeartbeats 2000000 in
theorem rshVU_any (w : World) (g cap n h caph M q s cz cx lo hi : Nat) (F : Nat → Nat) (hz : Vec w g cap lo hi F) (hx : Vec w h caph 0 (q + n) (wd M)) (hM : M < B64 ^ (q + n)) (hne : h ≠ g) (h0 : 0 < n) (hn : n ≤ cap) (hcap : cap ≤ 1000000) (hq : q ≤ 1000000) (hs1 : 1 ≤ s) (hs : s ≤ 63) :
    Calls Tryz.prog 77 #[.slice (Option.some ⟨g, 0, none⟩) n cz, .slice (Option.some ⟨h, q, none⟩) n cx, .int .u64 (s : Nat)] w fun e w' => (∃ c : Int, e = .returned (.int .u64 c)) ∧ Vec w' g cap 0 n (wd (M / 2 ^ (64 * q + s))) ∧ w.grownBy w' (Option.some g) := by
  have hs0 : (((s : Nat) : Int) == 0) = false := by rw [beq_eq_false_iff_ne]; omega
  have hn0 : (((n : Nat) : Int) == 0) = false := by rw [beq_eq_false_iff_ne]; omega
  have ha := and63 s hs
  have hb := and63 (64 - s) (by omega)
  have hsub : ((64 - s : Nat) : Int) = 64 - (s : Int) := by omega
  rw [hsub] at hb
  have hx0 := hx.cell q (Nat.zero_le _) (by omega)
  have hl0 := wd_le M q
  go_enter Tryz.func77, Tryz.ntmps77
  go_wp2_with fail
  clear hx0 hl0
  go_loopw [8] (fun kk wr => ∃ k : Nat, k + 1 ≤ n ∧ kk = .int .i64 ((k : Int) + 1) ∧ Vec wr g cap 0 k (wd (M / 2 ^ (64 * q + s))) ∧ w.grownBy wr (Option.some g)) (fun kk _ => n + 1 - (intOf kk).toNat)
  case atStart => exact ⟨0, by omega, rfl, (by obtain ⟨cur, a1, a2, _⟩ := hz; exact ⟨cur, a1, a2, fun j _ hj => absurd hj (Nat.not_lt_zero j)⟩), grown_refl _ _⟩
  case round =>
    obtain ⟨k, hk, rfl, hv, hg⟩ := hrel
    have hxr := hx.grown hg (fun e => hne (by injection e))
    obtain ⟨v, hc⟩ := hv.some k (by omega)
    have hf := hv.free k
    have hstep : Vec (wr.setCell ⟨g, k, none⟩ (.int .u64 (wd (M / 2 ^ (64 * q + s)) k : Nat))) g cap 0 (k + 1) (wd (M / 2 ^ (64 * q + s))) :=
      hv.set k _ (by omega) rfl (fun j _ hj hne => ⟨Nat.zero_le _, by omega, rfl⟩)
    have hgs := grown_set hg k (.int .u64 (wd (M / 2 ^ (64 * q + s)) k : Nat))
    by_cases hlt : k + 1 < n
    · have hx1 := hxr.cell (q + k) (Nat.zero_le _) (by omega)
      have hx2 := hxr.cell (q + (k + 1)) (Nat.zero_le _) (by omega)
      have hl1 := wd_le M (q + k)
      have hl2 := wd_le M (q + (k + 1))
      go_wp2_with fail
      go_region
      go_wp2_with fail
      rw [shr_val M q s k hs1 hs]
      go_roundw
      case rel => exact ⟨k + 1, by omega, by go_num, hstep, grown_drew hgs⟩
      case measure => simp [intOf]; omega
    · obtain rfl : n = k + 1 := by omega
      have hx1 := hxr.cell (q + k) (Nat.zero_le _) (by omega)
      have hl1 := wd_le M (q + k)
      have hlast : (((wd M (q + k) : Nat) : Int) / 2 ^ s) = (wd (M / 2 ^ (64 * q + s)) k : Nat) := by
        have h := wd_shr_top M q s (k + 1) hs1 hs (by omega) hM
        rw [show k + 1 - 1 = k by omega, show q + (k + 1) - 1 = q + k by omega] at h
        rw [h, Int.natCast_ediv, Int.natCast_pow]; rfl
      have HL := Lib.hid hlast
      clear hlast
      go_wp2_with fail
      go_ret
      rw [HL.out]
      exact ⟨⟨_, rfl⟩, hstep, hgs⟩
set_option linter.unusedVariables false
set_option linter.unusedSimpArgs false
open Go Go.RowKit
set_option maxRecDepth 100000
theorem size_W : (Tryz.prog.info? 114).map (·.size) = Option.some 1 := by kernel_rfl
/-- n words from place q on. -/
def fromWords (G : Nat → Nat) (q n : Nat) : List Value := (List.range n).map fun i => .int .u64 (G (q + i) : Nat)
theorem fromWords_length (G : Nat → Nat) (q n : Nat) : (fromWords G q n).length = n := by simp [fromWords]
theorem fromWords_get (G : Nat → Nat) (q n i : Nat) (h : i < n) : (fromWords G q n)[i]? = Option.some (.int .u64 (G (q + i) : Nat)) := by simp [fromWords, h]
theorem fromWords_one (G : Nat → Nat) (q n : Nat) : ∀ v ∈ fromWords G q n, v.oneCell' = true := by
  intro v hv
  simp only [fromWords, List.mem_map] at hv
  obtain ⟨i, _, rfl⟩ := hv
  rfl
/-- Words laid over a row, from place o on. -/
theorem Vec.lay {w : World} {g cap lo hi lo' hi' : Nat} {F F' G : Nat → Nat} (h : Vec w g cap lo hi F) (o q n : Nat) (hfit : o + n ≤ cap)
    (hF : ∀ j, lo' ≤ j → j < hi' → (o ≤ j ∧ j < o + n ∧ F' j = G (q + (j - o))) ∨ ((j < o ∨ o + n ≤ j) ∧ lo ≤ j ∧ j < hi ∧ F' j = F j)) :
    ∃ cur, w.heap[g]? = Option.some (.cells cur 114 (0, 0)) ∧ cur.size = cap ∧ Vec (w.setRow g (cur.toList.take o ++ (fromWords G q n ++ cur.toList.drop (o + n))).toArray) g cap lo' hi' F' := by
  obtain ⟨cur, hc, hs, hv⟩ := h
  refine ⟨cur, hc, hs, _, setRow_heap w g cur _ _ _ hc, ?_, fun j a b => ?_⟩
  · simp only [List.size_toArray, List.length_append, List.length_take, List.length_drop, Array.length_toList, fromWords_length]
    omega
  · have hlt : (cur.toList.take o).length = o := by simp only [List.length_take, Array.length_toList]; omega
    rw [List.getElem?_toArray]
    rcases hF j a b with ⟨h1, h2, h3⟩ | ⟨h1, h2, h3, h4⟩
    · rw [List.getElem?_append_right (by omega), hlt, List.getElem?_append_left (by rw [fromWords_length]; omega), fromWords_get _ _ _ _ (by omega), h3]
    · rw [h4, ← hv j h2 h3]
      rcases h1 with h1 | h1
      · rw [List.getElem?_append_left (by omega), List.getElem?_take_of_lt h1, Array.getElem?_toList]
      · rw [List.getElem?_append_right (by omega), hlt, List.getElem?_append_right (by rw [fromWords_length]; omega), fromWords_length, List.getElem?_drop, Array.getElem?_toList]
        congr 1
        omega
theorem grown_row {w wr : World} {g : Nat} (h : w.grownBy wr (Option.some g)) (c : Array Value) : w.grownBy (wr.setRow g c) (Option.some g) := grown_trans h (grown_setRow _ _ _)
theorem wpList_copy_vec {w : World} {ops : Array Oper} {rest : List Oper} {op : Oper} {a : Act} {Q : Exit → Act → World → Prop} (hgd : op.guard = none) (d s : Operand) (dT sT : TypeId)
    (ho : op.op = .call { callee := .builtin .copy, args := #[d, s], argTypes := #[dT, sT] }) (hu : Tryz.prog.underlying dT = Option.some (.slice 114))
    (g o h q n dcap scap cap caph lo hi lo' hi' : Nat) (F F' G : Nat → Nat) (hd : a.eval d = .slice (Option.some ⟨g, o, none⟩) n dcap) (hs : a.eval s = .slice (Option.some ⟨h, q, none⟩) n scap)
    (hz : Vec w g cap lo hi F) (hx : Vec w h caph q (q + n) G) (hfit : o + n ≤ cap)
    (hF : ∀ j, lo' ≤ j → j < hi' → (o ≤ j ∧ j < o + n ∧ F' j = G (q + (j - o))) ∨ ((j < o ∨ o + n ≤ j) ∧ lo ≤ j ∧ j < hi ∧ F' j = F j))
    (K : ∀ w', Vec w' g cap lo' hi' F' → w.grownBy w' (Option.some g) → wpList Tryz.prog ops Q rest (a.put op.dst (goInt n)) w') : wpList Tryz.prog ops Q (op :: rest) a w := by
  obtain ⟨cur, hc, hsz, hv⟩ := hz.lay o q n hfit hF
  refine wpList_copy_own hgd d s dT sT ho 114 hu size_W g o n dcap ⟨h, q, none⟩ n scap hd hs cur 114 hc (fromWords G q n) (by rw [fromWords_length]; exact (Nat.min_self n).symm) (fun j v hj => ?_) (by rw [fromWords_length]; omega) (fromWords_one _ _ _) ?_
  · have hjn : j < n := by have := (List.getElem?_eq_some_iff.1 hj).1; rwa [fromWords_length] at this
    rw [Addr.add_mid, hx.cell (q + j) (by omega) (by omega), ← hj, fromWords_get _ _ _ _ hjn]
  · rw [fromWords_length]
    exact K _ hv (grown_setRow _ _ _)
theorem zeroW (w : World) : (zeroValue 114).run Tryz.prog w = .ok (.int .u64 0) w := by kernel_rfl
theorem fromWords_zero (n : Nat) : (Builtin.zeroCells (Value.int .u64 0).cells n).toList = fromWords (fun _ => 0) 0 n := by
  apply List.ext_getElem?
  intro i
  by_cases h : i < n
  · rw [fromWords_get _ _ _ _ h]
    simp [Builtin.zeroCells, Value.cells, h, Nat.mod_one]
  · rw [List.getElem?_eq_none (by simp [Builtin.zeroCells, Value.cells]; omega), List.getElem?_eq_none (by rw [fromWords_length]; omega)]
theorem run_clear_row (w : World) (t ty : TypeId) (g o n c : Nat) (cur : Array Value) (ht : Tryz.prog.underlying t = Option.some (.slice 114)) (hc : w.heap[g]? = Option.some (.cells cur 114 (0, 0))) (hfit : o + (n + 1) ≤ cur.size) :
    (Builtin.clear_ #[t] ty #[.slice (Option.some ⟨g, o, none⟩) (n + 1) c]).run Tryz.prog w = .ok (.tuple #[]) (w.setRow g (cur.toList.take o ++ (fromWords (fun _ => 0) 0 (n + 1) ++ cur.toList.drop (o + (n + 1)))).toArray) := by
  have hst := run_storeCells_at Tryz.prog g o 114 (fromWords (fun _ => 0) 0 (n + 1)) 0 cur w hc (by rw [fromWords_length]; exact hfit) (fromWords_one _ _ _)
  rw [fromWords_length, Nat.add_zero, List.append_assoc] at hst
  simp [Builtin.clear_, run_underlying ht, zeroW, fromWords_zero, hst]
theorem wpList_clear_vec {w : World} {ops : Array Oper} {rest : List Oper} {op : Oper} {a : Act} {Q : Exit → Act → World → Prop} (hgd : op.guard = none) (d : Operand) (dT : TypeId)
    (ho : op.op = .call { callee := .builtin .clear, args := #[d], argTypes := #[dT] }) (hu : Tryz.prog.underlying dT = Option.some (.slice 114))
    (g n dcap cap lo hi lo' hi' : Nat) (F F' : Nat → Nat) (hd : a.eval d = .slice (Option.some ⟨g, 0, none⟩) n dcap)
    (hz : Vec w g cap lo hi F) (hfit : n ≤ cap) (hF : ∀ j, lo' ≤ j → j < hi' → (j < n ∧ F' j = 0) ∨ (n ≤ j ∧ lo ≤ j ∧ j < hi ∧ F' j = F j))
    (K : ∀ w', Vec w' g cap lo' hi' F' → w.grownBy w' (Option.some g) → wpList Tryz.prog ops Q rest (a.put op.dst (.tuple #[])) w') : wpList Tryz.prog ops Q (op :: rest) a w := by
  refine wpList_plain hgd fun K' hK' => ?_
  cases n with
  | zero =>
    unfold Oper.wp
    simp [execOp, ho, resolve, invoke, builtin, hd, Builtin.clear_, run_underlying hu, Result.andThen]
    exact hK' _ _ (K w (hz.weaken' (fun j a b => by
      rcases hF j a b with ⟨h, _⟩ | ⟨_, h1, h2, h3⟩
      · omega
      · exact ⟨h1, h2, h3.symm⟩)) (grown_refl _ _))
  | succ n =>
    obtain ⟨cur, hc, hsz, hv⟩ := hz.lay (G := fun _ => 0) (lo' := lo') (hi' := hi') (F' := F') 0 0 (n + 1) (by omega) (fun j a b => by
      rcases hF j a b with ⟨h1, h2⟩ | ⟨h0, h1, h2, h3⟩
      · exact Or.inl ⟨Nat.zero_le _, by omega, h2⟩
      · exact Or.inr ⟨Or.inr (by omega), h1, h2, h3⟩)
    have hrun := run_clear_row w dT op.type g 0 n dcap cur hu hc (by omega)
    unfold Oper.wp
    simp only [execOp, ho, resolve, invoke, builtin, hd, Sem.run_bind, Sem.run_pure, Result.andThen_ok, List.map_toArray, List.map_cons, List.map_nil, hrun]
    exact hK' _ _ (K _ hv (grown_setRow _ _ _))
set_option linter.unusedVariables false
set_option linter.unusedSimpArgs false
open Go Go.RowKit
set_option maxRecDepth 100000
/-- A row made behind w's blocks, or none. -/
def NewRow (w : World) (B : Option Addr) : Prop := ∀ a, B = Option.some a → w.heap.size ≤ a.block
theorem natIs_zero (w : World) : NatIs w none 0 0 0 := ⟨⟨by rw [Nat.pow_zero]; omega, fun h => absurd h (Nat.lt_irrefl 0)⟩, Or.inl ⟨rfl, rfl, rfl⟩⟩
theorem B64_pow (m : Nat) : B64 ^ m = 2 ^ (64 * m) := by rw [B64_two, ← Nat.pow_mul]
theorem shr_zero (M m s : Nat) (h : M < B64 ^ m) (hq : m ≤ s / 64) : M / 2 ^ s = 0 := by
  rw [B64_pow] at h
  exact Nat.div_eq_of_lt (Nat.lt_of_lt_of_le h (Nat.pow_le_pow_right (by omega) (by omega)))
theorem shr_lt (M m s k : Nat) (h : M < B64 ^ m) (hk : m = s / 64 + k) : M / 2 ^ s < B64 ^ k := by
  rw [B64_pow] at *
  rw [Nat.div_lt_iff_lt_mul (Nat.two_pow_pos s), ← Nat.pow_add]
  exact Nat.lt_of_lt_of_le h (Nat.pow_le_pow_right (by omega) (by omega))
theorem wd_shr_whole (M q j : Nat) : wd (M / 2 ^ (64 * q)) j = wd M (q + j) := by
  unfold wd
  rw [Nat.div_div_eq_div_mul, B64_two, ← Nat.pow_mul, ← Nat.pow_mul, ← Nat.pow_add]
  congr 3
  rw [Nat.mul_add]
set_option maxHeartbeats 2000000 in
theorem rsh_nil (w : World) (A : Option Addr) (m cx M s : Nat) (h : NatIs w A m cx M) (hs1 : 1 ≤ s) (hs : s ≤ 50000) (hm : m ≤ 50000) :
    Calls Tryz.prog 82 #[.slice none 0 0, .slice A m cx, .int .u64 (s : Nat)] w fun e w' => (∃ B n cap, e = .returned (.slice B n cap) ∧ NatIs w' B n cap (M / 2 ^ s) ∧ NewRow w B) ∧ Below w.heap.size w w' := by
  have hs0 : (((s : Nat) : Int) == 0) = false := by rw [beq_eq_false_iff_ne]; omega
  obtain ⟨q, hq⟩ : ∃ q, s / 64 = q := ⟨_, rfl⟩
  obtain ⟨r, hr⟩ : ∃ r, s % 64 = r := ⟨_, rfl⟩
  have hqi : ((s : Nat) : Int) / 64 = (q : Nat) := by omega
  have hri : ((s : Nat) : Int) % 64 = (r : Nat) := by omega
  have hq1 : q ≤ 1000 := by omega
  have hr1 : r ≤ 63 := by omega
  have HQ := Lib.hid hq
  have HR := Lib.hid hr
  have hlt := h.1.1
  have hrow := h.2
  clear h hq hr
  by_cases hk : m ≤ q
  · have hd : decide ((m : Int) - (q : Int) ≤ 0) = true := by simp; omega
    have hz := Lib.hid (shr_zero M m s hlt (by rw [HQ.out]; exact hk))
    clear hrow
    go_enter Tryz.func82, Tryz.ntmps82
    go_wp2_with fail
    go_ret
    exact ⟨⟨none, 0, 0, rfl, by rw [hz.out]; exact natIs_zero _, fun _ h => by cases h⟩, Below.refl _ _⟩
  · have hd : decide ((m : Int) - (q : Int) ≤ 0) = false := by simp; omega
    obtain ⟨h0, hA, _⟩ | ⟨g, rfl, hc1, hc2, hv⟩ := hrow
    · exfalso; omega
    · obtain ⟨k, hkm⟩ : ∃ k, m = q + k := ⟨m - q, by omega⟩
      have hk0 : 0 < k := by omega
      have hqk : (m : Int) - (q : Int) = (k : Nat) := by omega
      have hmk : (m : Int) - (k : Int) = (q : Nat) := by omega
      have hkl : k ≤ 50000 := by omega
      have hqm : (q : Int) ≤ (m : Int) := by omega
      have HKM := Lib.hid hkm
      have hgl := hv.lt
      have hML := Lib.hid (shr_lt M m s k hlt (by rw [HQ.out]; exact hkm))
      clear hkm hk
      go_enter Tryz.func82, Tryz.ntmps82
      go_wp2_with fail
      refine (make_nil k hk0 (by omega) _).mono ?_
      rintro e w1 ⟨cap, hc1', hc2', rfl, rfl⟩
      have hv1 := hv.below ((Below.refl w.heap.size w).alloc (Nat.le_refl _) (Obj.cells (zeroWords cap) 114))
      have hz1 := Vec.made w cap
      have hb1 : Below w.heap.size w (w.alloc (Obj.cells (zeroWords cap) 114)) := (Below.refl _ _).alloc (Nat.le_refl _) _
      generalize hW : w.alloc (Obj.cells (zeroWords cap) 114) = W at *
      clear hW
      have hmq : m - q = k := by omega
      have hvq : Vec W g cx q (q + k) (wd M) := hv1.weaken (Nat.zero_le _) (by omega) (fun _ _ _ => rfl)
      have hgv : g ≠ w.heap.size := by omega
      by_cases hr0 : r = 0
      · subst hr0
        have HF : ∀ j, 0 ≤ j → j < k → (0 ≤ j ∧ j < 0 + k ∧ wd (M / 2 ^ s) j = wd M (q + (j - 0))) ∨ ((j < 0 ∨ 0 + k ≤ j) ∧ 0 ≤ j ∧ j < cap ∧ wd (M / 2 ^ s) j = 0) := fun j _ hj =>
          Or.inl ⟨Nat.zero_le _, by omega, by
            have hs64 : s = 64 * q := by have := HQ.out; have := HR.out; omega
            rw [hs64, wd_shr_whole, Nat.sub_zero]⟩
        have HFF := Lib.hid HF
        clear HF
        go_wp2_with (refine wpList_copy_vec rfl (.tmp 40) (.tmp 45) 92 92 rfl Tryz.underlying92 w.heap.size 0 g q k cap (cx - q) cap cx 0 cap 0 k (fun _ => 0) (wd (M / 2 ^ s)) (wd M) rfl rfl hz1 hvq (by omega) HFF.out ?_; intro w2 hv2 hg2)
        have hb2 := below_of_grown (grown_trans (grown_of_below hb1) hg2) (Nat.le_refl _)
        clear hg2 hb1 hz1 hvq hv1
        refine (norm_row _ w.heap.size k cap (M / 2 ^ s) hv2 hML.out hc1' (by omega)).mono ?_
        rintro e w3 ⟨⟨n, hn, hnorm, rfl⟩, rfl⟩
        go_wp2_with fail
        go_ret
        exact ⟨⟨_, n, cap, rfl, ⟨hnorm, Or.inr ⟨w.heap.size, rfl, by omega, by omega, hv2.weaken (Nat.le_refl _) hn (fun _ _ _ => rfl)⟩⟩, fun a h => by injection h with h; rw [← h]; exact Nat.le_refl _⟩, hb2⟩
      · have hr0' : (((r : Nat) : Int) == 0) = false := by rw [beq_eq_false_iff_ne]; omega
        have hrv := run_rshVU
        have hs64 := Lib.hid (show 64 * q + r = s by have := HQ.out; have := HR.out; omega)
        go_wp2_with fail
        refine (rshVU_any _ w.heap.size cap k g cx M q r cap (cx - q) 0 cap (fun _ => 0) hz1 (by rw [← HKM.out]; exact hv1) (by rw [← HKM.out]; exact hlt) hgv hk0 hc1' (by omega) (by omega) (by omega) hr1).mono ?_
        rw [hs64.out]
        rintro e w2 ⟨⟨c, rfl⟩, hv2, hg2⟩
        have hb2 := below_of_grown (grown_trans (grown_of_below hb1) hg2) (Nat.le_refl _)
        clear hg2 hb1 hz1 hvq hv1
        go_wp2_with fail
        refine (norm_row _ w.heap.size k cap (M / 2 ^ s) hv2 hML.out hc1' (by omega)).mono ?_
        rintro e w3 ⟨⟨n, hn, hnorm, rfl⟩, rfl⟩
        go_wp2_with fail
        go_ret
        exact ⟨⟨_, n, cap, rfl, ⟨hnorm, Or.inr ⟨w.heap.size, rfl, by omega, by omega, hv2.weaken (Nat.le_refl _) hn (fun _ _ _ => rfl)⟩⟩, fun a h => by injection h with h; rw [← h]; exact Nat.le_refl _⟩, hb2⟩
set_option linter.unusedVariables false
set_option linter.unusedSimpArgs false
open Go Go.RowKit
set_option maxRecDepth 100000
theorem wd_shl_zero (M s : Nat) : wd (M * 2 ^ s) 0 = wd M 0 * 2 ^ s % B64 := by
  unfold wd
  rw [Nat.pow_zero, Nat.div_one, Nat.div_one, Nat.mod_mul_mod]
theorem wd_shl (M s j : Nat) (hs1 : 1 ≤ s) (hs : s ≤ 63) : wd (M * 2 ^ s) (j + 1) = (wd M (j + 1) * 2 ^ s % B64 ||| wd M j / 2 ^ (64 - s)) := by
  have e2 : M / B64 ^ (j + 1) = M / B64 ^ j / B64 := by rw [Nat.pow_succ, Nat.div_div_eq_div_mul]
  have hB : B64 = 2 ^ s * 2 ^ (64 - s) := by rw [← Nat.pow_add, show s + (64 - s) = 64 by omega]; rfl
  have h1 : 0 < 2 ^ s := Nat.two_pow_pos s
  have h2 : 0 < 2 ^ (64 - s) := Nat.two_pow_pos _
  have e1 : M * 2 ^ s / B64 ^ (j + 1) = M / B64 ^ j / 2 ^ (64 - s) := by
    rw [Nat.pow_succ, Nat.div_div_eq_div_mul]
    conv => lhs; rw [hB]
    rw [show (2 ^ s * 2 ^ (64 - s)) ^ j * (2 ^ s * 2 ^ (64 - s)) = 2 ^ s * ((2 ^ s * 2 ^ (64 - s)) ^ j * 2 ^ (64 - s)) by ac_rfl, Nat.mul_comm M, Nat.mul_div_mul_left _ _ h1, ← hB]
  unfold wd
  rw [e1, e2]
  generalize M / B64 ^ j = N
  have h3 : N % B64 / 2 ^ (64 - s) = N / 2 ^ (64 - s) % 2 ^ s := by
    conv => lhs; rw [hB, Nat.mul_comm (2 ^ s)]
    rw [Nat.mod_mul_right_div_self]
  have h4 : N / B64 % B64 * 2 ^ s % B64 = 2 ^ s * (N / B64 % 2 ^ (64 - s)) := by
    rw [Nat.mod_mul_mod, Nat.mul_comm (N / B64)]
    conv => lhs; rw [hB]
    rw [Nat.mul_mod_mul_left, hB]
  have h5 : N / 2 ^ (64 - s) % B64 = N / 2 ^ (64 - s) % 2 ^ s + 2 ^ s * (N / B64 % 2 ^ (64 - s)) := by
    conv => lhs; rw [hB, Nat.mod_mul]
    rw [Nat.div_div_eq_div_mul, Nat.mul_comm (2 ^ (64 - s)), ← hB]
  rw [h5, h3, h4, ← Nat.two_pow_add_eq_or_of_lt (Nat.mod_lt _ h1), Nat.add_comm]
/-- The word that goes out above. -/
theorem wd_shl_top (M s m : Nat) (hs1 : 1 ≤ s) (hs : s ≤ 63) (h0 : 0 < m) (hM : M < B64 ^ m) : wd (M * 2 ^ s) m = wd M (m - 1) / 2 ^ (64 - s) := by
  obtain ⟨j, rfl⟩ : ∃ j, m = j + 1 := ⟨m - 1, by omega⟩
  have h := wd_shl M s j hs1 hs
  have hz : wd M (j + 1) = 0 := by unfold wd; rw [Nat.div_eq_of_lt hM]; rfl
  rw [hz, Nat.zero_mul, Nat.zero_mod, Nat.zero_or] at h
  exact h
theorem shl_val (M s k : Nat) (hs1 : 1 ≤ s) (hs : s ≤ 63) : bits BinOp.or IntKind.u64 (IntKind.u64.wrap (((wd M (k + 1) : Nat) : Int) * 2 ^ s)) (((wd M k : Nat) : Int) / 2 ^ (64 - s)) = (wd (M * 2 ^ s) (k + 1) : Nat) := by
  have e1 : (((wd M k : Nat) : Int) / 2 ^ (64 - s)) = ((wd M k / 2 ^ (64 - s) : Nat) : Int) := by rw [Int.natCast_ediv, Int.natCast_pow]; rfl
  have e2 : IntKind.u64.wrap (((wd M (k + 1) : Nat) : Int) * 2 ^ s) = ((wd M (k + 1) * 2 ^ s % B64 : Nat) : Int) := by
    rw [IntKind.wrap_u64, Int.natCast_emod, Int.natCast_mul, Int.natCast_pow]; rfl
  rw [e1, e2, u64_or_nat (wd M (k + 1) * 2 ^ s % B64) (wd M k / 2 ^ (64 - s)) (show _ < B64 from Nat.mod_lt _ B64_pos) (Nat.lt_of_le_of_lt (Nat.div_le_self _ _) (wd_lt M k)), wd_shl M s k hs1 hs]
theorem run_lshVU (args : Array Value) (w : World) : (callFunc 105 args).run Tryz.prog w = .ok (.enter 76 args) w := by kernel_rfl
set_option maxHeartbeats 2000000 in
theorem lshVU_any (w : World) (g cap d m h caph M s cz cx lo hi : Nat) (F : Nat → Nat) (hz : Vec w g cap lo hi F) (hx : Vec w h caph 0 m (wd M)) (hM : M < B64 ^ m) (hne : h ≠ g) (h0 : 0 < m) (hn : d + m ≤ cap) (hcap : cap ≤ 1000000) (hs1 : 1 ≤ s) (hs : s ≤ 63) :
    Calls Tryz.prog 76 #[.slice (Option.some ⟨g, d, none⟩) m cz, .slice (Option.some ⟨h, 0, none⟩) m cx, .int .u64 (s : Nat)] w fun e w' => e = .returned (.int .u64 (wd (M * 2 ^ s) m : Nat)) ∧ Vec w' g cap d (d + m) (fun j => wd (M * 2 ^ s) (j - d)) ∧ w.grownBy w' (Option.some g) := by
  have hs0 : (((s : Nat) : Int) == 0) = false := by rw [beq_eq_false_iff_ne]; omega
  have hn0 : (((m : Nat) : Int) == 0) = false := by rw [beq_eq_false_iff_ne]; omega
  have ha := and63 s hs
  have hb := and63 (64 - s) (by omega)
  have hsub : ((64 - s : Nat) : Int) = 64 - (s : Int) := by omega
  rw [hsub] at hb
  have hx0 := hx.cell (m - 1) (Nat.zero_le _) (by omega)
  have hm1 : ((m : Int) - 1).toNat = m - 1 := by omega
  have hl0 := wd_le M (m - 1)
  have htop := wd_shl_top M s m hs1 hs h0 hM
  have htop' : (wd (M * 2 ^ s) m : Int) = ((wd M (m - 1) : Nat) : Int) / 2 ^ (64 - s) := by rw [htop, Int.natCast_ediv, Int.natCast_pow]; rfl
  have HT := Lib.hid htop'
  clear htop htop'
  go_enter Tryz.func76, Tryz.ntmps76
  go_wp2_with fail
  clear hx0 hl0
  go_loopw [8] (fun kk wr => ∃ k : Nat, k < m ∧ kk = .int .i64 k ∧ Vec wr g cap (d + k + 1) (d + m) (fun j => wd (M * 2 ^ s) (j - d)) ∧ w.grownBy wr (Option.some g)) (fun kk _ => (intOf kk).toNat)
  case atStart => exact ⟨m - 1, by omega, congrArg _ (by omega), hz.weaken' (fun j a b => by omega), grown_refl _ _⟩
  case round =>
    obtain ⟨k, hk, rfl, hv, hg⟩ := hrel
    have hxr := hx.grown hg (fun e => hne (by injection e))
    obtain ⟨v, hc⟩ := hv.some (d + k) (by omega)
    have hf := hv.free (d + k)
    have hstep : Vec (wr.setCell ⟨g, d + k, none⟩ (.int .u64 (wd (M * 2 ^ s) k : Nat))) g cap (d + k) (d + m) (fun j => wd (M * 2 ^ s) (j - d)) :=
      hv.set (d + k) _ (by omega) (by rw [show d + k - d = k by omega]) (fun j a b hne => ⟨by omega, b, rfl⟩)
    have hgs := grown_set hg (d + k) (.int .u64 (wd (M * 2 ^ s) k : Nat))
    have hx1 := hxr.cell k (Nat.zero_le _) (by omega)
    have hl1 := wd_le M k
    by_cases hlt : 0 < k
    · obtain ⟨i, rfl⟩ : ∃ i, k = i + 1 := ⟨k - 1, by omega⟩
      have hx2 := hxr.cell i (Nat.zero_le _) (by omega)
      have hl2 := wd_le M i
      go_wp2_with fail
      go_region
      go_wp2_with fail
      rw [shl_val M s i hs1 hs]
      go_roundw
      case rel => exact ⟨i, by omega, by go_num, hstep, grown_drew hgs⟩
      case measure => simp [intOf]
    · obtain rfl : k = 0 := by omega
      have hw0 : IntKind.u64.wrap (((wd M 0 : Nat) : Int) * 2 ^ s) = (wd (M * 2 ^ s) 0 : Nat) := by
        rw [wd_shl_zero, IntKind.wrap_u64, Int.natCast_emod, Int.natCast_mul, Int.natCast_pow]; rfl
      simp only [Nat.add_zero] at hc hf hstep hgs
      go_wp2_with fail
      go_ret
      exact ⟨congrArg (fun n => Ending.returned (.int .u64 n)) HT.out.symm, hstep, hgs⟩
set_option linter.unusedVariables false
set_option linter.unusedSimpArgs false
open Go Go.RowKit
set_option maxRecDepth 100000
theorem below_drewN (w : World) (n : Nat) : Below w.heap.size w (w.drewN n) := ⟨rfl, rfl, rfl, Nat.le_refl _, fun _ _ => rfl⟩
theorem same_nil (w : World) (A : Option Addr) (m cx : Nat) :
    Calls Tryz.prog 99 #[.slice none 0 0, .slice A m cx] w fun e w' => e = .returned (.bool false) ∧ Below w.heap.size w w' := by
  by_cases h : m = 0
  · subst h
    go_enter Tryz.func99, Tryz.ntmps99
    go_wp2_with fail
    go_quiet (fail)
    go_wp2_with fail
    go_ret
    exact ⟨rfl, below_drewN w _⟩
  · have h' : ((0 : Int) == (m : Nat)) = false := by rw [beq_eq_false_iff_ne]; omega
    go_enter Tryz.func99, Tryz.ntmps99
    go_wp2_with fail
    go_quiet (fail)
    go_wp2_with fail
    go_ret
    exact ⟨rfl, below_drewN w _⟩
theorem alias_nil (w : World) (A : Option Addr) (m cx : Nat) :
    Calls Tryz.prog 100 #[.slice none 0 0, .slice A m cx] w fun e w' => e = .returned (.bool false) ∧ Below w.heap.size w w' := by
  go_enter Tryz.func100, Tryz.ntmps100
  go_wp2_with fail
  go_quiet (fail)
  go_wp2_with fail
  go_ret
  exact ⟨rfl, below_drewN w _⟩
set_option maxHeartbeats 2000000 in
theorem set_nil (w : World) (A : Option Addr) (m cx M : Nat) (h : NatIs w A m cx M) (h0 : 0 < m) (hm : m ≤ 50000) :
    Calls Tryz.prog 93 #[.slice none 0 0, .slice A m cx] w fun e w' => (∃ B n cap, e = .returned (.slice B n cap) ∧ NatIs w' B n cap M) ∧ Below w.heap.size w w' := by
  have hnorm := Lib.hid h.1
  obtain ⟨h1, _⟩ | ⟨g, rfl, hc1, hc2, hv⟩ := h.2
  · omega
  · have hgl := hv.lt
    clear h
    go_enter Tryz.func93, Tryz.ntmps93
    go_wp2_with fail
    refine (make_nil m h0 (by omega) _).mono ?_
    rintro e w1 ⟨cap, hc1', hc2', rfl, rfl⟩
    have hv1 := hv.below ((Below.refl w.heap.size w).alloc (Nat.le_refl _) (Obj.cells (zeroWords cap) 114))
    have hz1 := Vec.made w cap
    have hb1 : Below w.heap.size w (w.alloc (Obj.cells (zeroWords cap) 114)) := (Below.refl _ _).alloc (Nat.le_refl _) _
    generalize hW : w.alloc (Obj.cells (zeroWords cap) 114) = W at *
    clear hW
    have hvq : Vec W g cx 0 (0 + m) (wd M) := hv1.weaken (Nat.le_refl _) (by omega) (fun _ _ _ => rfl)
    have HF : ∀ j, 0 ≤ j → j < m → (0 ≤ j ∧ j < 0 + m ∧ wd M j = wd M (0 + (j - 0))) ∨ ((j < 0 ∨ 0 + m ≤ j) ∧ 0 ≤ j ∧ j < cap ∧ wd M j = 0) := fun j _ hj =>
      Or.inl ⟨Nat.zero_le _, by omega, by rw [Nat.sub_zero, Nat.zero_add]⟩
    have HFF := Lib.hid HF
    clear HF
    go_wp2_with (refine wpList_copy_vec rfl (.tmp 9) (.tmp 10) 92 92 rfl Tryz.underlying92 w.heap.size 0 g 0 m cap cx cap cx 0 cap 0 m (fun _ => 0) (wd M) (wd M) rfl rfl hz1 hvq (by omega) HFF.out ?_; intro w2 hv2 hg2)
    have hb2 := below_of_grown (grown_trans (grown_of_below hb1) hg2) (Nat.le_refl _)
    go_ret
    exact ⟨⟨_, m, cap, rfl, hnorm.out, Or.inr ⟨w.heap.size, rfl, by omega, by omega, hv2⟩⟩, hb2⟩
/-- What lsh makes of M's words, M 2^r B64^d: the lower d words are 0. -/
theorem wd_up_low (T d j : Nat) (h : j < d) : wd (T * B64 ^ d) j = 0 := by
  unfold wd
  obtain ⟨e, rfl⟩ : ∃ e, d = j + 1 + e := ⟨d - (j + 1), by omega⟩
  rw [show T * B64 ^ (j + 1 + e) = B64 ^ j * (B64 * (T * B64 ^ e)) by rw [Nat.pow_add, Nat.pow_succ]; ac_rfl, Nat.mul_div_cancel_left _ (Bpow_pos j), Nat.mul_mod_right]
theorem wd_up (T d j : Nat) (h : d ≤ j) : wd (T * B64 ^ d) j = wd T (j - d) := by
  obtain ⟨e, rfl⟩ : ∃ e, j = d + e := ⟨j - d, by omega⟩
  rw [Nat.add_sub_cancel_left]
  unfold wd
  rw [Nat.pow_add, ← Nat.div_div_eq_div_mul, Nat.mul_div_cancel _ (Bpow_pos d)]
theorem shl_all (M s q r : Nat) (hq : s / 64 = q) (hr : s % 64 = r) : M * 2 ^ r * B64 ^ q = M * 2 ^ s := by
  rw [B64_pow, Nat.mul_assoc, ← Nat.pow_add]
  congr 2
  omega
theorem shl_lt (M m s n : Nat) (h : M < B64 ^ m) (hn : n = m + s / 64) : M * 2 ^ s < B64 ^ (n + 1) := by
  rw [B64_pow] at *
  have h2 : M * 2 ^ s < 2 ^ (64 * m) * 2 ^ s := Nat.mul_lt_mul_of_pos_right h (Nat.two_pow_pos s)
  rw [← Nat.pow_add] at h2
  exact Nat.lt_of_lt_of_le h2 (Nat.pow_le_pow_right (by omega) (by omega))
set_option maxHeartbeats 4000000 in
theorem lsh_nil (w : World) (A : Option Addr) (m cx M s : Nat) (h : NatIs w A m cx M) (hs : s ≤ 50000) (hm : m ≤ 50000) (h0 : s = 0 → 0 < m) :
    Calls Tryz.prog 85 #[.slice none 0 0, .slice A m cx, .int .u64 (s : Nat)] w fun e w' => (∃ B n cap, e = .returned (.slice B n cap) ∧ NatIs w' B n cap (M * 2 ^ s)) ∧ Below w.heap.size w w' := by
  by_cases hs0 : s = 0
  · have hm0 := h0 hs0
    subst hs0
    have HP := Lib.hid (show M * 2 ^ 0 = M by rw [Nat.pow_zero, Nat.mul_one])
    go_enter Tryz.func85, Tryz.ntmps85
    go_wp2_with fail
    refine (same_nil _ A m cx).mono ?_
    rintro e w1 ⟨rfl, hb1⟩
    have hn1 := h.below hb1
    go_wp2_with fail
    refine (alias_nil _ A m cx).mono ?_
    rintro e w2 ⟨rfl, hb2⟩
    have hn2 := hn1.below hb2
    go_wp2_with fail
    refine (set_nil _ A m cx M hn2 hm0 hm).mono ?_
    rintro e w3 ⟨⟨B, n, cap, rfl, hn3⟩, hb3⟩
    go_wp2_with fail
    go_ret
    exact ⟨⟨B, n, cap, rfl, by rw [HP.out]; exact hn3⟩, (hb1.trans (hb2.mono hb1.size)).trans (hb3.mono (Nat.le_trans hb1.size hb2.size))⟩
  · have hs0' : (((s : Nat) : Int) == 0) = false := by rw [beq_eq_false_iff_ne]; omega
    by_cases hm0 : m = 0
    · subst hm0
      have hz := Lib.hid (show M * 2 ^ s = 0 by
        have := h.1.1
        rw [Nat.pow_zero] at this
        rw [show M = 0 by omega, Nat.zero_mul])
      go_enter Tryz.func85, Tryz.ntmps85
      go_wp2_with fail
      go_ret
      exact ⟨⟨none, 0, 0, rfl, by rw [hz.out]; exact natIs_zero _⟩, Below.refl _ _⟩
    · have hm0' : (((m : Nat) : Int) == 0) = false := by rw [beq_eq_false_iff_ne]; omega
      obtain ⟨q, hq⟩ : ∃ q, s / 64 = q := ⟨_, rfl⟩
      obtain ⟨r, hr⟩ : ∃ r, s % 64 = r := ⟨_, rfl⟩
      obtain ⟨n, hn⟩ : ∃ n, m + q = n := ⟨_, rfl⟩
      have hqi : ((s : Nat) : Int) / 64 = (q : Nat) := by omega
      have hri : ((s : Nat) : Int) % 64 = (r : Nat) := by omega
      have hni : ((m : Nat) : Int) + (q : Nat) = (n : Nat) := by omega
      have hnm : ((n : Nat) : Int) - (m : Nat) = (q : Nat) := by omega
      have hq1 : q ≤ 1000 := by omega
      have hr1 : r ≤ 63 := by omega
      have hn1 : n ≤ 51000 := by omega
      have hqn : (q : Int) ≤ (n : Int) := by omega
      have HQ := Lib.hid hq
      have HR := Lib.hid hr
      have HN := Lib.hid hn
      have HML := Lib.hid (shl_lt M m s n h.1.1 (by rw [hq]; exact hn.symm))
      have HAL := Lib.hid (shl_all M s q r hq hr)
      have hlt := h.1.1
      have hrow := h.2
      clear h hq hr h0 hn hs0
      obtain ⟨h0, hA, _⟩ | ⟨g, rfl, hc1, hc2, hv⟩ := hrow
      · exfalso; omega
      · have hgl := hv.lt
        have hn1i : ((n : Int) + 1) = ((n + 1 : Nat) : Int) := by omega
        have HNI := Lib.hid hn1i
        clear hn1i
        go_enter Tryz.func85, Tryz.ntmps85
        go_wp2_with fail
        rw [HNI.out]
        refine (make_nil (n + 1) (by omega) (by omega) _).mono ?_
        rintro e w1 ⟨cap, hc1', hc2', rfl, rfl⟩
        have hv1 := hv.below ((Below.refl w.heap.size w).alloc (Nat.le_refl _) (Obj.cells (zeroWords cap) 114))
        have hz1 := Vec.made w cap
        have hb1 : Below w.heap.size w (w.alloc (Obj.cells (zeroWords cap) 114)) := (Below.refl _ _).alloc (Nat.le_refl _) _
        generalize hW : w.alloc (Obj.cells (zeroWords cap) 114) = W at *
        clear hW
        have hmq : n - q = m := by have := HN.out; omega
        have hvq : Vec W g cx 0 (0 + m) (wd M) := hv1.weaken (Nat.le_refl _) (by omega) (fun _ _ _ => rfl)
        have hgv : g ≠ w.heap.size := by omega
        have hn0 := HN.out
        have hlowF : ∀ j, j < q → wd (M * 2 ^ s) j = 0 := fun j hj => by rw [← HAL.out]; exact wd_up_low _ q j hj
        have hupF : ∀ j, q ≤ j → wd (M * 2 ^ s) j = wd (M * 2 ^ r) (j - q) := fun j hj => by rw [← HAL.out]; exact wd_up _ q j hj
        have HLF := Lib.hid hlowF
        have HUF := Lib.hid hupF
        clear hlowF hupF
        have fin : ∀ w4 : World, Vec w4 w.heap.size cap 0 (n + 1) (wd (M * 2 ^ s)) → Below w.heap.size w w4 → ∀ k, k ≤ n + 1 → NormLen k (M * 2 ^ s) → (∃ B n' cap', Ending.returned (.slice (Option.some ⟨w.heap.size, 0, none⟩) k cap) = Ending.returned (.slice B n' cap') ∧ NatIs w4 B n' cap' (M * 2 ^ s)) ∧ Below w.heap.size w w4 :=
          fun w4 h4 hb4 k hk hnorm => ⟨⟨_, k, cap, rfl, hnorm, Or.inr ⟨w.heap.size, rfl, by omega, by omega, h4.weaken (Nat.le_refl _) hk (fun _ _ _ => rfl)⟩⟩, hb4⟩
        have FIN := Lib.hid fin
        clear fin
        by_cases hr0 : r = 0
        · subst hr0
          have hw0 : ∀ j, wd (M * 2 ^ 0) j = wd M j := fun j => by rw [Nat.pow_zero, Nat.mul_one]
          have HCF := Lib.hid (show ∀ j, q ≤ j → j < n → (q ≤ j ∧ j < q + m ∧ wd (M * 2 ^ s) j = wd M (0 + (j - q))) ∨ ((j < q ∨ q + m ≤ j) ∧ 0 ≤ j ∧ j < cap ∧ wd (M * 2 ^ s) j = 0) from fun j a b => Or.inl ⟨a, by omega, by rw [HUF.out j a, hw0, Nat.zero_add]⟩)
          have hzn : wd (M * 2 ^ s) n = 0 := by
            rw [HUF.out n (by omega), hw0, show n - q = m by omega]
            unfold wd
            rw [Nat.div_eq_of_lt hlt]; rfl
          have HZN := Lib.hid hzn
          clear hzn hw0
          go_wp2_with (first
            | (refine wpList_copy_vec rfl (.tmp 46) (.tmp 47) 92 92 rfl Tryz.underlying92 w.heap.size q g 0 m (cap - q) cx cap cx 0 cap q n (fun _ => 0) (wd (M * 2 ^ s)) (wd M) rfl rfl hz1 hvq (by omega) HCF.out ?_; intro w2 hv2 hg2; obtain ⟨v0, hcv⟩ := hv2.some n (by omega); have hfv := hv2.free n; have hv3 : Vec (w2.setCell ⟨w.heap.size, n, none⟩ (.int .u64 (0 : Nat))) w.heap.size cap q (n + 1) (wd (M * 2 ^ s)) := (hv2.set n 0 (by omega) HZN.out.symm (fun j a b hne => ⟨a, by omega, rfl⟩)); have hg3 := grown_set hg2 n (.int .u64 (0 : Nat)); have HV3 := Lib.hid hv3; have HG3 := Lib.hid hg3; clear hv3 hg3 hv2 hg2)
            | (refine wpList_clear_vec rfl (.tmp 68) 92 rfl Tryz.underlying92 w.heap.size q cap cap q (n + 1) 0 (n + 1) (wd (M * 2 ^ s)) (wd (M * 2 ^ s)) rfl HV3.out (by omega) (fun j a b => if hj : j < q then Or.inl ⟨hj, HLF.out j hj⟩ else Or.inr ⟨by omega, by omega, b, rfl⟩) ?_; intro w4 hv4 hg4; have hb4 := Lib.hid (below_of_grown (grown_trans (grown_trans (grown_of_below hb1) HG3.out) hg4) (Nat.le_refl _)); clear hg4))
          refine (norm_row _ w.heap.size (n + 1) cap (M * 2 ^ s) hv4 HML.out hc1' (by omega)).mono ?_
          rintro e w5 ⟨⟨k, hk, hnorm, rfl⟩, rfl⟩
          go_wp2_with fail
          go_ret
          exact FIN.out _ hv4 hb4.out k hk hnorm
        · have hr0' : (((r : Nat) : Int) == 0) = false := by rw [beq_eq_false_iff_ne]; omega
          have hlv := run_lshVU
          go_wp2_with fail
          refine (lshVU_any _ w.heap.size cap q m g cx M r (cap - q) cx 0 cap (fun _ => 0) hz1 hv1 hlt hgv (by omega) (by omega) (by omega) (by omega) hr1).mono ?_
          rintro e w2 ⟨rfl, hv2, hg2⟩
          obtain ⟨v0, hcv⟩ := hv2.some n (by omega)
          have hfv := hv2.free n
          have hv3 : Vec (w2.setCell ⟨w.heap.size, n, none⟩ (.int .u64 (wd (M * 2 ^ r) m : Nat))) w.heap.size cap q (n + 1) (wd (M * 2 ^ s)) :=
            hv2.set n (wd (M * 2 ^ r) m) (by omega) (by rw [HUF.out n (by omega), show n - q = m by omega]) (fun j a b hne => ⟨a, by omega, (HUF.out j a).symm⟩)
          have hg3 := grown_set hg2 n (.int .u64 (wd (M * 2 ^ r) m : Nat))
          have HV3 := Lib.hid hv3
          have HG3 := Lib.hid hg3
          clear hv3 hg3 hv2 hg2
          go_wp2_with (refine wpList_clear_vec rfl (.tmp 68) 92 rfl Tryz.underlying92 w.heap.size q cap cap q (n + 1) 0 (n + 1) (wd (M * 2 ^ s)) (wd (M * 2 ^ s)) rfl HV3.out (by omega) (fun j a b => if hj : j < q then Or.inl ⟨hj, HLF.out j hj⟩ else Or.inr ⟨by omega, by omega, b, rfl⟩) ?_; intro w4 hv4 hg4; have hb4 := Lib.hid (below_of_grown (grown_trans (grown_trans (grown_of_below hb1) HG3.out) hg4) (Nat.le_refl _)); clear hg4)
          refine (norm_row _ w.heap.size (n + 1) cap (M * 2 ^ s) hv4 HML.out hc1' (by omega)).mono ?_
          rintro e w5 ⟨⟨k, hk, hnorm, rfl⟩, rfl⟩
          go_wp2_with fail
          go_ret
          exact FIN.out _ hv4 hb4.out k hk hnorm
end Go.Proofs.YtopilodakphhgaaGreatDoor
