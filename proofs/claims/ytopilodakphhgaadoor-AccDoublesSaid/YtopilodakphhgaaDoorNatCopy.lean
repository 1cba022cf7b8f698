/- Laws on rows of words: copy, clear. -/
import Derived.Test.YtopilodakphhgaaDoorNatSetBytes
import Derived.Laws.CopyOwn
import Derived.Lib.SliceRun
namespace Go.Proofs.YtopilodakphhgaaDoor
set_option linter.unusedVariables false
set_option linter.unusedSimpArgs false
open Go Go.RowKit
set_option maxRecDepth 100000
theorem size_W : (Tryd.prog.info? 102).map (·.size) = Option.some 1 := by kernel_rfl
/-- n words from place q on. -/
def fromWords (G : Nat → Nat) (q n : Nat) : List Value := (List.range n).map fun i => .int .u64 (G (q + i) : Nat)
theorem fromWords_length (G : Nat → Nat) (q n : Nat) : (fromWords G q n).length = n := by simp [fromWords]
theorem fromWords_get (G : Nat → Nat) (q n i : Nat) (h : i < n) : (fromWords G q n)[i]? = Option.some (.int .u64 (G (q + i) : Nat)) := by simp [fromWords, h]
theorem fromWords_one (G : Nat → Nat) (q n : Nat) : ∀ v ∈ fromWords G q n, v.oneCell' = true := by
  intro v hv
  simp only [fromWords, List.mem_map] at hv
  obtain ⟨i, _, rfl⟩ := hv
  rfl
/-- Words laid over a row, from place o on. -/
theorem Vec.lay {w : World} {g cap lo hi lo' hi' : Nat} {F F' G : Nat → Nat} (h : Vec w g cap lo hi F) (o q n : Nat) (hfit : o + n ≤ cap)
    (hF : ∀ j, lo' ≤ j → j < hi' → (o ≤ j ∧ j < o + n ∧ F' j = G (q + (j - o))) ∨ ((j < o ∨ o + n ≤ j) ∧ lo ≤ j ∧ j < hi ∧ F' j = F j)) :
    ∃ cur, w.heap[g]? = Option.some (.cells cur 102 (0, 0)) ∧ cur.size = cap ∧ Vec (w.setRow g (cur.toList.take o ++ (fromWords G q n ++ cur.toList.drop (o + n))).toArray) g cap lo' hi' F' := by
  obtain ⟨cur, hc, hs, hv⟩ := h
  refine ⟨cur, hc, hs, _, setRow_heap w g cur _ _ _ hc, ?_, fun j a b => ?_⟩
  · simp only [List.size_toArray, List.length_append, List.length_take, List.length_drop, Array.length_toList, fromWords_length]
    omega
  · have hlt : (cur.toList.take o).length = o := by simp only [List.length_take, Array.length_toList]; omega
    rw [List.getElem?_toArray]
    rcases hF j a b with ⟨h1, h2, h3⟩ | ⟨h1, h2, h3, h4⟩
    · rw [List.getElem?_append_right (by omega), hlt, List.getElem?_append_left (by rw [fromWords_length]; omega), fromWords_get _ _ _ _ (by omega), h3]
    · rw [h4, ← hv j h2 h3]
      rcases h1 with h1 | h1
      · rw [List.getElem?_append_left (by omega), List.getElem?_take_of_lt h1, Array.getElem?_toList]
      · rw [List.getElem?_append_right (by omega), hlt, List.getElem?_append_right (by rw [fromWords_length]; omega), fromWords_length, List.getElem?_drop, Array.getElem?_toList]
        congr 1
        omega
theorem grown_row {w wr : World} {g : Nat} (h : w.grownBy wr (Option.some g)) (c : Array Value) : w.grownBy (wr.setRow g c) (Option.some g) := grown_trans h (grown_setRow _ _ _)
theorem wpList_copy_vec {w : World} {ops : Array Oper} {rest : List Oper} {op : Oper} {a : Act} {Q : Exit → Act → World → Prop} (hgd : op.guard = none) (d s : Operand) (dT sT : TypeId)
    (ho : op.op = .call { callee := .builtin .copy, args := #[d, s], argTypes := #[dT, sT] }) (hu : Tryd.prog.underlying dT = Option.some (.slice 102))
    (g o h q n dcap scap cap caph lo hi lo' hi' : Nat) (F F' G : Nat → Nat) (hd : a.eval d = .slice (Option.some ⟨g, o, none⟩) n dcap) (hs : a.eval s = .slice (Option.some ⟨h, q, none⟩) n scap)
    (hz : Vec w g cap lo hi F) (hx : Vec w h caph q (q + n) G) (hfit : o + n ≤ cap)
    (hF : ∀ j, lo' ≤ j → j < hi' → (o ≤ j ∧ j < o + n ∧ F' j = G (q + (j - o))) ∨ ((j < o ∨ o + n ≤ j) ∧ lo ≤ j ∧ j < hi ∧ F' j = F j))
    (K : ∀ w', Vec w' g cap lo' hi' F' → w.grownBy w' (Option.some g) → wpList Tryd.prog ops Q rest (a.put op.dst (goInt n)) w') : wpList Tryd.prog ops Q (op :: rest) a w := by
  obtain ⟨cur, hc, hsz, hv⟩ := hz.lay o q n hfit hF
  refine wpList_copy_own hgd d s dT sT ho 102 hu size_W g o n dcap ⟨h, q, none⟩ n scap hd hs cur 102 hc (fromWords G q n) (by rw [fromWords_length]; exact (Nat.min_self n).symm) (fun j v hj => ?_) (by rw [fromWords_length]; omega) (fromWords_one _ _ _) ?_
  · have hjn : j < n := by have := (List.getElem?_eq_some_iff.1 hj).1; rwa [fromWords_length] at this
    rw [Addr.add_mid, hx.cell (q + j) (by omega) (by omega), ← hj, fromWords_get _ _ _ _ hjn]
  · rw [fromWords_length]
    exact K _ hv (grown_setRow _ _ _)
theorem zeroW (w : World) : (zeroValue 102).run Tryd.prog w = .ok (.int .u64 0) w := by kernel_rfl
theorem fromWords_zero (n : Nat) : (Builtin.zeroCells (Value.int .u64 0).cells n).toList = fromWords (fun _ => 0) 0 n := by
  apply List.ext_getElem?
  intro i
  by_cases h : i < n
  · rw [fromWords_get _ _ _ _ h]
    simp [Builtin.zeroCells, Value.cells, h, Nat.mod_one]
  · rw [List.getElem?_eq_none (by simp [Builtin.zeroCells, Value.cells]; omega), List.getElem?_eq_none (by rw [fromWords_length]; omega)]
theorem run_clear_row (w : World) (t ty : TypeId) (g o n c : Nat) (cur : Array Value) (ht : Tryd.prog.underlying t = Option.some (.slice 102)) (hc : w.heap[g]? = Option.some (.cells cur 102 (0, 0))) (hfit : o + (n + 1) ≤ cur.size) :
    (Builtin.clear_ #[t] ty #[.slice (Option.some ⟨g, o, none⟩) (n + 1) c]).run Tryd.prog w = .ok (.tuple #[]) (w.setRow g (cur.toList.take o ++ (fromWords (fun _ => 0) 0 (n + 1) ++ cur.toList.drop (o + (n + 1)))).toArray) := by
  have hst := run_storeCells_at Tryd.prog g o 102 (fromWords (fun _ => 0) 0 (n + 1)) 0 cur w hc (by rw [fromWords_length]; exact hfit) (fromWords_one _ _ _)
  rw [fromWords_length, Nat.add_zero, List.append_assoc] at hst
  simp [Builtin.clear_, run_underlying ht, zeroW, fromWords_zero, hst]
theorem wpList_clear_vec {w : World} {ops : Array Oper} {rest : List Oper} {op : Oper} {a : Act} {Q : Exit → Act → World → Prop} (hgd : op.guard = none) (d : Operand) (dT : TypeId)
    (ho : op.op = .call { callee := .builtin .clear, args := #[d], argTypes := #[dT] }) (hu : Tryd.prog.underlying dT = Option.some (.slice 102))
    (g n dcap cap lo hi lo' hi' : Nat) (F F' : Nat → Nat) (hd : a.eval d = .slice (Option.some ⟨g, 0, none⟩) n dcap)
    (hz : Vec w g cap lo hi F) (hfit : n ≤ cap) (hF : ∀ j, lo' ≤ j → j < hi' → (j < n ∧ F' j = 0) ∨ (n ≤ j ∧ lo ≤ j ∧ j < hi ∧ F' j = F j))
    (K : ∀ w', Vec w' g cap lo' hi' F' → w.grownBy w' (Option.some g) → wpList Tryd.prog ops Q rest (a.put op.dst (.tuple #[])) w') : wpList Tryd.prog ops Q (op :: rest) a w := by
  refine wpList_plain hgd fun K' hK' => ?_
  cases n with
  | zero =>
    unfold Oper.wp
    simp [execOp, ho, resolve, invoke, builtin, hd, Builtin.clear_, run_underlying hu, Result.andThen]
    exact hK' _ _ (K w (hz.weaken' (fun j a b => by
      rcases hF j a b with ⟨h, _⟩ | ⟨_, h1, h2, h3⟩
      · omega
      · exact ⟨h1, h2, h3.symm⟩)) (grown_refl _ _))
  | succ n =>
    obtain ⟨cur, hc, hsz, hv⟩ := hz.lay (G := fun _ => 0) (lo' := lo') (hi' := hi') (F' := F') 0 0 (n + 1) (by omega) (fun j a b => by
      rcases hF j a b with ⟨h1, h2⟩ | ⟨h0, h1, h2, h3⟩
      · exact Or.inl ⟨Nat.zero_le _, by omega, h2⟩
      · exact Or.inr ⟨Or.inr (by omega), h1, h2, h3⟩)
    have hrun := run_clear_row w dT op.type g 0 n dcap cur hu hc (by omega)
    unfold Oper.wp
    simp only [execOp, ho, resolve, invoke, builtin, hd, Sem.run_bind, Sem.run_pure, Result.andThen_ok, List.map_toArray, List.map_cons, List.map_nil, hrun]
    exact hK' _ _ (K _ hv (grown_setRow _ _ _))
end Go.Proofs.YtopilodakphhgaaDoor
