/- zono.Plus: what its walk asks of lists, maps, blocks. -/
import Derived.Test.YtpfbgenefjhcjaaGreatDoorZoPlusD
import Derived.Test.YtpfbgenefjhcjaaGreatDoorPZoHel
import Derived.Test.YtpfbgenefjhcjaaGreatDoorPZoSam
namespace Go.Proofs.YtpfbgenefjhcjaaGreatDoor
set_option linter.unusedVariables false
set_option linter.unusedSimpArgs false
open Go Go.RowKit
set_option maxRecDepth 100000
theorem add_lists' (w : World) (A B : Option Addr) (ca cb na nb n go ko : Nat) (a b bs : List Nat) (f : Nat → Int) (ea : na = n) (eb : nb = n) (ha : FR w A a) (hb : FR w B b) (hla : a.length = n) (hlb : b.length = n) (sa : Small a) (sb : Small b) (xa : ∀ u ∈ a, fexp u ≠ 2047) (xb : ∀ u ∈ b, fexp u ≠ 2047)
  (hO : Offs w go n bs f) (hbl : bs.length = n) (hn : n ≤ 1000000) (hf : ∀ j, j < n → (f j).natAbs + 3 * FB < LIM) (hga : ∀ p, A = some p → p.block ∉ bs) (hgb : ∀ p, B = some p → p.block ∉ bs) :
  Calls Tryz.prog 99 #[.slice A na ca, .slice B nb cb, .slice (some ⟨go, 0, none⟩) n ko] w fun e w' => TellsAdd w go n bs f a b e w' := by
 subst ea
 subst eb
 exact add_lists w A B ca cb _ go ko a b bs f ha hb hla hlb sa sb xa xb hO hbl hn hf hga hgb
theorem addr_lt {w : World} {A : Option Addr} {us : List Nat} (h : FR w A us) (hl : 0 < us.length) (p : Addr) (hp : A = some p) : p.block < w.heap.size := by
 obtain ⟨u, hu⟩ := get_some us 0 hl
 obtain ⟨b, o, e, hb, _⟩ := h 0 u hu
 rw [hp] at e
 cases e
 exact hb
theorem plusD_none {a b : ZD} {n : Nat} (hn : a.n = (n : Int)) (hg : a.n = b.n ∧ goodD a = true ∧ goodD b = true) (hp : plusZ a b n (unionD a.ids b.ids) = none) : plusD a b = lostZ (sameSize a b) := by
 unfold plusD
 rw [if_pos ⟨hg.2.1, hg.2.2, hg.1⟩, hn, Int.toNat_natCast, hp]
 rfl
theorem plusD_some {a b z : ZD} {n : Nat} (hn : a.n = (n : Int)) (hg : a.n = b.n ∧ goodD a = true ∧ goodD b = true) (hp : plusZ a b n (unionD a.ids b.ids) = some z) : plusD a b = z := by
 unfold plusD
 rw [if_pos ⟨hg.2.1, hg.2.2, hg.1⟩, hn, Int.toNat_natCast, hp]
 rfl
theorem cols_below {w W : World} {z : ZD} {ca : Nat → Option Addr} {cc : Nat → Nat} {C : Option Addr} (h : ∀ k, k < z.g.length → ColAt w z ca cc k ∧ ∃ b o : Nat, C = some ⟨b, o, none⟩ ∧ b < w.heap.size ∧ w.cell? ⟨b, o + k, none⟩ = some (.slice (ca k) (colZ z k).length (cc k))) (hb : Below w.heap.size w W) :
  ∀ k, k < z.g.length → ColAt W z ca cc k ∧ ∃ b o : Nat, C = some ⟨b, o, none⟩ ∧ b < W.heap.size ∧ W.cell? ⟨b, o + k, none⟩ = some (.slice (ca k) (colZ z k).length (cc k)) := fun k hk => by
 obtain ⟨h1, b, o, e, h2, h3⟩ := h k hk
 exact ⟨⟨h1.row.below (Nat.le_refl _) hb, h1.cap, h1.max⟩, b, o, e, Nat.lt_of_lt_of_le h2 hb.size, (hb.cell (p := ⟨b, o + k, none⟩) h2).trans h3⟩
theorem ids_lt {z : ZD} (hz : Good z) : ∀ (k : Nat) (i : Int), z.ids[k]? = some i → ∀ (j : Nat) (i' : Int), j < k → z.ids[j]? = some i' → i' < i := by
 intro k
 induction k with
 | zero => intro i _ j i' hj; omega
 | succ k ih =>
  intro i hi j i' hj hi'
  have hl := (List.getElem?_eq_some_iff.1 hi).1
  obtain ⟨m, hm⟩ := get_some z.ids k (by omega)
  have h1 := (hz.idk (k + 1) i hi).2.2 k rfl m hm
  rcases Nat.lt_or_ge j k with h2 | h2
  ·have := ih m hm j i' h2 hi'
   omega
  ·obtain rfl : j = k := by omega
   rw [hm] at hi'
   cases hi'
   exact h1
/-- What a look-up finds. -/
def lookV (z : ZD) (ca : Nat → Option Addr) (cc : Nat → Nat) (i : Int) : Value := match idxOf z.ids i with
 | some k => .slice (ca k) (colZ z k).length (cc k)
 | none => .slice none 0 0
theorem look_any {W : World} {bm : Nat} {z : ZD} (hz : Good z) {ca : Nat → Option Addr} {cc : Nat → Nat} (h : W.ownsMap Tryz.prog 3 heldV bm z.g.length (putL (.map []) ((List.range z.g.length).map (entV z ca cc)))) {i : Int} (hw : (Lit.int .i64 i).wf = true) :
  (Instr.lookup 149 (.map (some bm)) (.int .i64 i) false).run Tryz.prog W = .ok (lookV z ca cc i) W := by
 obtain ⟨v, ps, hrun, hR⟩ := h.lookup (t := 149) (e := 22) (Go.Maps.int_keyed Tryz.underlying3) Tryz.underlying149 (z := .slice none 0 0) (by kernel_rfl) (zd := .held (.slice none 0 0)) (zp := []) rfl (key_int hw)
 rw [hrun]
 congr 1
 injection hR with hR
 injection hR with hR _
 unfold lookV
 have hl := hz.len
 cases hi : idxOf z.ids i with
 | none =>
  have h1 := idx_none hi
  rw [putL_none _ _ _ fun p hp => by
   obtain ⟨k, hk, rfl⟩ := List.mem_map.1 hp
   have hk' := List.mem_range.1 hk
   refine h1 _ ?_
   show z.ids.getD k 0 ∈ z.ids
   rw [List.getD_eq_getElem?_getD, List.getElem?_eq_getElem (by omega), Option.getD_some]
   exact List.getElem_mem _] at hR
  injection hR
 | some k =>
  obtain ⟨h1, h2⟩ := idx_some hi
  have hg : z.ids.getD k 0 = i := by rw [List.getD_eq_getElem?_getD, h2, Option.getD_some]
  rw [putL_at (i := i) (v := .slice (ca k) (colZ z k).length (cc k)) _ _ _ ⟨[], rfl⟩ (by
   rw [List.pairwise_map]
   refine List.Pairwise.imp_of_mem (fun {x y} hx hy hxy => ?_) (List.pairwise_lt_range (n := z.g.length))
   have hx' := List.mem_range.1 hx
   have hy' := List.mem_range.1 hy
   obtain ⟨p, hp⟩ := get_some z.ids x (by omega)
   obtain ⟨q, hq⟩ := get_some z.ids y (by omega)
   have := ids_lt hz y q hq x p hxy hp
   show z.ids.getD x 0 ≠ z.ids.getD y 0
   rw [List.getD_eq_getElem?_getD, List.getD_eq_getElem?_getD, hp, hq, Option.getD_some, Option.getD_some]
   omega) (List.mem_map.2 ⟨k, List.mem_range.2 (by omega), by unfold entV; rw [hg]⟩)] at hR
  injection hR
theorem union_mem : ∀ (a b : List Int) (i : Int), i ∈ unionD a b → i ∈ a ∨ i ∈ b := by
 intro a b
 fun_induction unionD a b with
 | case1 b => intro i h; exact Or.inr h
 | case2 x a ih => intro i h; rcases List.mem_cons.1 h with rfl | h; exact Or.inl List.mem_cons_self; rcases ih i h with h | h; exact Or.inl (List.mem_cons_of_mem _ h); cases h
 | case3 x a y b h ih => intro i h; rcases List.mem_cons.1 h with rfl | h; exact Or.inl List.mem_cons_self; rcases ih i h with h | h; exact Or.inl (List.mem_cons_of_mem _ h); exact Or.inr h
 | case4 x a y b h h' ih => intro i h; rcases List.mem_cons.1 h with rfl | h; exact Or.inr List.mem_cons_self; rcases ih i h with h | h; exact Or.inl h; exact Or.inr (List.mem_cons_of_mem _ h)
 | case5 x a y b h h' ih => intro i h; rcases ih i h with h | h; exact Or.inl (List.mem_cons_of_mem _ h); exact Or.inr h
theorem union_wf {a b : ZD} (ha : Good a) (hb : Good b) {i : Int} (h : i ∈ unionD a.ids b.ids) : 0 ≤ i ∧ i ≤ 1073741824 := by
 rcases union_mem _ _ i h with h | h
 ·obtain ⟨k, hk, rfl⟩ := List.mem_iff_getElem.1 h
  have := ha.idk k _ (List.getElem?_eq_getElem hk)
  exact ⟨this.1, this.2.1⟩
 ·obtain ⟨k, hk, rfl⟩ := List.mem_iff_getElem.1 h
  have := hb.idk k _ (List.getElem?_eq_getElem hk)
  exact ⟨this.1, this.2.1⟩
/-- What a look-up finds, as a list: a column, or nothing. -/
theorem look_case {w : World} {z : ZD} (hz : Good z) (hk : ZOk z) {n : Nat} (hn : z.n = (n : Int)) (h1 : 1 ≤ n) {ca : Nat → Option Addr} {cc : Nat → Nat} (hc : ∀ k, k < z.g.length → ColAt w z ca cc k) (i : Int) :
  (∃ (bp op kp : Nat), lookV z ca cc i = .slice (some ⟨bp, op, none⟩) n kp ∧ bp < w.heap.size ∧ FR w (some ⟨bp, op, none⟩) (colI z n i) ∧ (colI z n i).length = n ∧ Small (colI z n i) ∧ ∀ u ∈ colI z n i, fexp u ≠ 2047) ∨ (lookV z ca cc i = .slice none 0 0 ∧ colI z n i = List.replicate n 0) := by
 unfold lookV
 have hl := hz.len
 cases hi : idxOf z.ids i with
 | none => exact Or.inr ⟨rfl, by unfold colI; rw [hi]⟩
 | some k =>
  left
  obtain ⟨h2, h3⟩ := idx_some hi
  have e : colI z n i = colZ z k := by unfold colI; rw [hi]
  obtain ⟨_, k2, k3, k4⟩ := hz.colAt hk k (by omega)
  have hcl : (colZ z k).length = n := by omega
  have hck := hc k (by omega)
  obtain ⟨u, hu⟩ := get_some (colZ z k) 0 (by omega)
  obtain ⟨b, o, e2, hb, _⟩ := hck.row 0 u hu
  rw [e]
  refine ⟨b, o, cc k, ?_, hb, ?_, hcl, k3, k4⟩
  ·show Value.slice (ca k) (colZ z k).length (cc k) = _
   rw [e2, hcl]
  ·rw [← e2]
   exact hck.row
theorem FOs.one {base : Nat} {w : World} {v : Value} {us : List Nat} (h : FO base w v us) : FOs base w [v] [us] := by
 refine ⟨rfl, fun j xs hx => ?_, fun i j v1 v2 g hij h1 h2 hg => ?_⟩
 ·match j, hx with
  | 0, hx => cases hx; exact ⟨v, rfl, h⟩
  | j + 1, hx => simp at hx
 ·match i, j, hij, h2 with
  | i, j + 1, _, h2 => simp at h2
theorem Kept.far {bs : List Nat} {gb : Nat} {W0 W : World} (hK : Kept (gb :: bs) W0 W) (hg : Typed W0 gb 26) (hb : ∀ b ∈ bs, Typed W0 b 163) {k : Nat} {t : TypeId} (hk : Typed W0 k t) (h1 : t ≠ 26) (h2 : t ≠ 163) : W.heap[k]? = W0.heap[k]? :=
 hK.block k hk.lt fun hm => by
  rcases List.mem_cons.1 hm with e | e
  ·subst e
   exact hk.ne hg h1 rfl
  ·exact hk.ne (hb k e) h2 rfl
theorem Kept.ownsMap {bs : List Nat} {gb : Nat} {W0 W : World} (hK : Kept (gb :: bs) W0 W) (hg : Typed W0 gb 26) (hb : ∀ b ∈ bs, Typed W0 b 163) {H : Type} {P : Program} {kt : TypeId} {R : Value → Option (DataW H × List MemPlace)} {b n : Nat} {D : DataW H} (h : W0.ownsMap P kt R b n D) : W.ownsMap P kt R b n D := by
 refine ownsMap_heap h (hK.block b h.lt fun hm => ?_)
 have hT : ∃ t, Typed W0 b t := by
  rcases List.mem_cons.1 hm with e | e
  ·subst e; exact ⟨_, hg⟩
  ·exact ⟨_, hb b e⟩
 obtain ⟨t, cs, h1⟩ := hT
 obtain ⟨es, clock, h2, _⟩ := h
 rw [h1] at h2
 cases h2
theorem FlB.typed {w : World} {g n : Nat} {us : List Nat} (h : FlB w g n us) : Typed w g 43 := by
 obtain ⟨cs, h1, _⟩ := h
 exact ⟨cs, h1⟩
theorem PtB.typed {w : World} {g n : Nat} {bs : List Nat} (h : PtB w g n bs) : Typed w g 112 := by
 obtain ⟨cs, h1, _⟩ := h
 exact ⟨cs, h1⟩
theorem Offs.far {w w1 : World} {g n : Nat} {bs : List Nat} {f : Nat → Int} {row : Option Nat} {t : TypeId} (h : Offs w g n bs f) (hg : w.grownBy w1 row) (hr : ∀ k, row = some k → Typed w k t) (h1 : t ≠ 112) (h2 : t ≠ 163) : Offs w1 g n bs f :=
 h.heap (hg.block g h.ptr.lt fun e => (hr g e.symm).ne h.ptr.typed h1 rfl) fun b hb => hg.block b (h.lt b hb) fun e => (hr b e.symm).ne (h.typed b hb) h2 rfl
theorem Offs.kept {w w1 : World} {g n gb : Nat} {bs : List Nat} {f : Nat → Int} (h : Offs w g n bs f) (hK : Kept [gb] w w1) (h1 : g ≠ gb) (h2 : gb ∉ bs) : Offs w1 g n bs f :=
 h.heap (hK.block g h.ptr.lt fun hm => h1 (List.mem_singleton.1 hm)) fun b hb => hK.block b (h.lt b hb) fun hm => h2 ((List.mem_singleton.1 hm) ▸ hb)
theorem zeros_small (n : Nat) : Small (List.replicate n 0) ∧ ∀ u ∈ List.replicate n 0, fexp u ≠ 2047 := ⟨fun u hu => by rw [List.eq_of_mem_replicate hu]; decide, fun u hu => by rw [List.eq_of_mem_replicate hu]; decide⟩
end Go.Proofs.YtpfbgenefjhcjaaGreatDoor
