/- A region that draws its order and ends in stores that wait for all the rest: what reads may be taken first, though a late store turns its cell. -/
import Derived.Test.YtopilodakphhgaaGreatDoorProg
import Derived.Deep.RegionHeld3
namespace Go.Proofs.YtopilodakphhgaaGreatDoor
set_option linter.unusedVariables false
set_option linter.unusedSimpArgs false
open Go
section
variable {P : Program} {ops : Array Oper} {Q : Exit → Act → World → Prop} {md : Region.Mode} {S : World → Prop} {lates : List Nat}
/-- Whatever order is picked; behind each operation that is not one of 'lates' S is shown. -/
def wpLate (P : Program) (md : Region.Mode) (ops : Array Oper) (Q : Exit → Act → World → Prop) (S : World → Prop) (lates : List Nat) : Nat → Array Bool → Act → World → Prop
  | 0, listed, a, w => Region.ready md ops listed = [] ∧ Q .normal a w
  | n + 1, listed, a, w => (Region.ready md ops listed = [] → Q .normal a w) ∧
    ∀ j ∈ Region.ready md ops listed, wpOp P ops Q j (fun a' w' => (j ∈ lates ∨ S w') ∧ wpLate P md ops Q S lates n (listed.setIfInBounds j true) a' w') a w
theorem wpAny_of_late : ∀ (n : Nat) (listed : Array Bool) (a : Act) (w : World), wpLate P md ops Q S lates n listed a w → wpAny P md ops Q n listed a w
  | 0, _, _, _, h => h
  | n + 1, _, _, _, h => ⟨h.1, fun j hj => wpOp_mono (fun a' w' h' => wpAny_of_late n _ a' w' h'.2) (h.2 j hj)⟩
/-- Every late operation waits for number i. -/
def waitsB (md : Region.Mode) (ops : Array Oper) (lates : List Nat) (i : Nat) : Bool :=
  !lates.contains i && lates.all fun l => match ops[l]? with | none => true | some o => o.after.any fun e => Region.binds md e && e.on == i
theorem late_not_ready {i j : Nat} {listed : Array Bool} (hb : waitsB md ops lates i = true) (hi : listed.getD i true = false) (hj : j ∈ Region.ready md ops listed) : j ∉ lates := by
  intro hl
  obtain ⟨_, o, ho, hall⟩ := mem_ready.1 hj
  unfold waitsB at hb
  rw [Bool.and_eq_true, List.all_eq_true] at hb
  have h1 := hb.2 j hl
  rw [ho] at h1
  obtain ⟨e, he, h2⟩ := Array.any_eq_true'.1 h1
  rw [Bool.and_eq_true, beq_iff_eq] at h2
  have h3 := hall e he h2.1
  rw [h2.2] at h3
  rcases Nat.lt_or_ge i listed.size with h' | h'
  · simp [h'] at hi h3
    rw [hi] at h3
    cases h3
  · simp [Array.getElem?_eq_none h'] at h3
theorem late_first {i : Nat} {oi : Oper} {v : Value} (hi : ops[i]? = some oi) (hsel : ∀ (j : Nat) (o : Oper) cs b, ops[j]? = some o → o.op ≠ .select cs b) (hb : waitsB md ops lates i = true)
    (hQ : ∀ c a w, Q (.panic c) (a.put oi.dst v) w → Q (.panic c) a w) :
    ∀ (n : Nat) (listed : Array Bool) (a : Act) (w : World),
      (∀ j oj, ops[j]? = some oj → j ≠ i → listed.getD j true = false → (∀ e ∈ oj.after, Region.binds md e = true → e.on ≠ i) → oi.apart ops oj = true) →
      i ∈ Region.ready md ops listed → YieldsIf P ops S oi v a → S w →
      wpLate P md ops Q S lates n (listed.setIfInBounds i true) (a.put oi.dst v) w → wpLate P md ops Q S lates (n + 1) listed a w := by
  intro n
  induction n with
  | zero =>
    intro listed a w _ hr hy hS H
    refine ⟨fun h => (by rw [h] at hr; cases hr), fun j hj => ?_⟩
    by_cases e : j = i
    · subst e
      exact hy.wpOp hi hS ⟨Or.inr hS, H⟩
    · have := ready_mono hj e
      rw [H.1] at this
      cases this
  | succ n ih =>
    intro listed a w hfree hr hy hS H
    have hiu := (mem_ready.1 hr).1
    refine ⟨fun h => (by rw [h] at hr; cases hr), fun j hj => ?_⟩
    by_cases e : j = i
    · subst e
      exact hy.wpOp hi hS ⟨Or.inr hS, H⟩
    · have hnl := late_not_ready hb hiu hj
      have h1 := H.2 j (ready_mono hj e)
      obtain ⟨hju, oj, hoj, hall⟩ := mem_ready.1 hj
      have hno : ∀ e' ∈ oj.after, Region.binds md e' = true → e'.on ≠ i := fun e' he hbn heq => by
        have h2 := hall e' he hbn
        rw [heq] at h2
        rcases Nat.lt_or_ge i listed.size with h' | h'
        · simp [h'] at hiu h2
          rw [hiu] at h2
          cases h2
        · simp [Array.getElem?_eq_none h'] at h2
      have h2 := wpOp_putIf hoj (hfree j oj hoj e hju hno) (fun cs b => hsel i oi cs b hi) (fun cs b => hsel j oj cs b hoj) hQ hy h1
      have hfree' : ∀ k ok, ops[k]? = some ok → k ≠ i → (listed.setIfInBounds j true).getD k true = false → (∀ e' ∈ ok.after, Region.binds md e' = true → e'.on ≠ i) → oi.apart ops ok = true := fun k ok hk hki hun hn => by
        refine hfree k ok hk hki ?_ hn
        by_cases hjk : j = k
        · subst hjk; exact hju
        · rw [getD_set_ne true hjk] at hun; exact hun
      refine wpOp_mono (fun a' w' h3 => ?_) h2
      have hS' : S w' := h3.2.1.resolve_left hnl
      refine ⟨Or.inr hS', ih (listed.setIfInBounds j true) a' w' hfree' (ready_mono hr (Ne.symm e)) h3.1 hS' ?_⟩
      rw [Array.setIfInBounds_comm _ _ e]
      exact h3.2.2
/-- Take number i first: it yields v in every world that meets S. -/
theorem late_take {i : Nat} (d : Option Tmp) {oi : Oper} {v : Value} {n : Nat} {listed : Array Bool} {a : Act} {w : World} (hi : ops[i]? = some oi) (hd : oi.dst = d)
    (hs : Region.noSelect ops = true) (hf : Region.free md ops listed i = true) (hr : (Region.ready md ops listed).contains i = true) (hb : waitsB md ops lates i = true)
    (hQ : ∀ c a w, Q (.panic c) (a.put d v) w → Q (.panic c) a w) (hw : Region.wanted oi (yielded ops a.tmps) = true) (hS : S w)
    (hy : ∀ w, S w → (execOp a.eval oi).run P w = .ok (.value v) w)
    (h : wpLate P md ops Q S lates n (listed.setIfInBounds i true) (a.put d v) w) : wpLate P md ops Q S lates (n + 1) listed a w := by
  subst hd
  exact late_first hi (Region.noSelect_spec hs) hb hQ n listed a w (Region.free_spec hi hf) (by simpa using hr) (Or.inl ⟨hw, hy⟩) hS h
/-- Number i is not wanted: its guard is shut. -/
theorem late_skip {i : Nat} (d : Option Tmp) {oi : Oper} {n : Nat} {listed : Array Bool} {a : Act} {w : World} (hi : ops[i]? = some oi) (hd : oi.dst = d)
    (hs : Region.noSelect ops = true) (hf : Region.free md ops listed i = true) (hr : (Region.ready md ops listed).contains i = true) (hb : waitsB md ops lates i = true)
    (hQ : ∀ c a w, Q (.panic c) (a.put d undef) w → Q (.panic c) a w) (hw : Region.wanted oi (yielded ops a.tmps) = false) (hS : S w)
    (h : wpLate P md ops Q S lates n (listed.setIfInBounds i true) (a.put d undef) w) : wpLate P md ops Q S lates (n + 1) listed a w := by
  subst hd
  exact late_first hi (Region.noSelect_spec hs) hb hQ n listed a w (Region.free_spec hi hf) (by simpa using hr) (Or.inr ⟨hw, rfl⟩) hS h
/-- The one operation that may come up. -/
theorem late_one {i : Nat} {o : Oper} {n : Nat} {listed : Array Bool} {a : Act} {w : World} (ho : ops[i]? = some o) (hr : Region.ready md ops listed = [i])
    (h : ∀ K' : Act → World → Prop, Shut (∀ a w, i ∈ lates ∨ S w → wpLate P md ops Q S lates n (listed.setIfInBounds i true) a w → K' a w) → if Region.wanted o (yielded ops a.tmps) = true then Oper.wp P o a w K' Q else K' (a.put o.dst undef) w) :
    wpLate P md ops Q S lates (n + 1) listed a w := by
  refine ⟨fun h0 => (by rw [hr] at h0; cases h0), fun j hj => ?_⟩
  rw [hr] at hj
  obtain rfl : j = i := by simpa using hj
  exact wpOp_step ho (fun K' hK => h K' (show Shut _ from fun a w h1 h2 => hK a w ⟨h1, h2⟩))
theorem late_done {listed : Array Bool} {a : Act} {w : World} (hr : Region.ready md ops listed = []) (h : Q .normal a w) : ∀ n, wpLate P md ops Q S lates n listed a w
  | 0 => ⟨hr, h⟩
  | _ + 1 => ⟨fun _ => h, by rw [hr]; simp⟩
theorem set_listed {listed : Array Bool} {i k : Nat} (hi : i < listed.size) : (listed.setIfInBounds i true).getD k false = true ↔ k = i ∨ listed.getD k false = true := by
  by_cases e : i = k
  · subst e
    simp [hi]
  · rw [getD_set_ne false e]
    exact ⟨Or.inr, fun h => h.resolve_left (fun e' => e e'.symm)⟩
/-- Each operation waits for operations ahead of it alone. -/
def backB (md : Region.Mode) (ops : Array Oper) : Bool := (List.range ops.size).all fun i => match ops[i]? with | none => true | some o => o.after.all fun e => !Region.binds md e || decide (e.on < i)
theorem all_listed {listed : Array Bool} (hb : backB md ops = true) (hs : listed.size = ops.size) (hr : Region.ready md ops listed = []) : ∀ k, k < ops.size → listed.getD k false = true := by
  intro k
  induction k using Nat.strongRecOn with
  | _ k ih =>
    intro hk
    obtain ⟨o, ho⟩ : ∃ o, ops[k]? = some o := ⟨ops[k], Array.getElem?_eq_getElem hk⟩
    unfold backB at hb
    rw [List.all_eq_true] at hb
    have h1 := hb k (List.mem_range.2 hk)
    rw [ho] at h1
    have h2 := Array.all_eq_true'.1 h1
    by_cases hl : listed.getD k true = false
    · have : k ∈ Region.ready md ops listed := mem_ready.2 ⟨hl, o, ho, fun e he hbn => by
        have h3 := h2 e he
        rw [hbn] at h3
        have h4 : e.on < k := by simpa using h3
        exact ih e.on h4 (by omega)⟩
      rw [hr] at this
      cases this
    · have hk' : k < listed.size := by omega
      simp [hk'] at hl ⊢
      exact hl
/-- How many have not come up. -/
def leftN (ops : Array Oper) (listed : Array Bool) : Nat := ((List.range ops.size).filter fun j => !listed.getD j true).length
theorem leftN_set {listed : Array Bool} {i : Nat} (hi : i < ops.size) (hl : i < listed.size) (hu : listed.getD i true = false) : leftN ops (listed.setIfInBounds i true) < leftN ops listed := by
  have e : (List.range ops.size).filter (fun j => !(listed.setIfInBounds i true).getD j true) = ((List.range ops.size).filter fun j => !listed.getD j true).filter (fun j => j != i) := by
    rw [List.filter_filter]
    refine List.filter_congr fun j _ => ?_
    by_cases h : i = j
    · subst h
      simp [hl]
    · rw [getD_set_ne true h, show (j != i) = true from bne_iff_ne.2 (fun e => h e.symm), Bool.true_and]
  unfold leftN
  rw [e]
  exact List.length_filter_lt_length_iff_exists.2 ⟨i, List.mem_filter.2 ⟨List.mem_range.2 hi, by simp [hu]⟩, by simp⟩
/-- Whatever order is picked: what holds of the operations that have come up, of the frame and of the world. -/
theorem inv_any {I : (Nat → Prop) → Act → World → Prop} (hb : backB md ops = true)
    (H : ∀ (i : Nat) (o : Oper), ops[i]? = some o → ∀ (L : Nat → Prop) (a : Act) (w : World), I L a w → (∀ e ∈ o.after, Region.binds md e = true → L e.on) → ¬ L i →
      ∀ K' : Act → World → Prop, Shut (∀ a w, I (fun k => k = i ∨ L k) a w → K' a w) → if Region.wanted o (yielded ops a.tmps) = true then Oper.wp P o a w K' Q else K' (a.put o.dst undef) w)
    (hQ : ∀ (L : Nat → Prop) (a : Act) (w : World), (∀ k, k < ops.size → L k) → I L a w → Q .normal a w) :
    ∀ (n : Nat) (listed : Array Bool) (a : Act) (w : World), listed.size = ops.size → leftN ops listed ≤ n → I (fun k => listed.getD k false = true) a w → wpAny P md ops Q n listed a w := by
  intro n
  induction n with
  | zero =>
    intro listed a w hs hn hI
    have hr : Region.ready md ops listed = [] := by
      refine List.eq_nil_iff_forall_not_mem.2 fun i hi => ?_
      obtain ⟨hu, o, ho, _⟩ := mem_ready.1 hi
      have h0 : (List.range ops.size).filter (fun j => !listed.getD j true) = [] := List.eq_nil_of_length_eq_zero (Nat.le_zero.1 hn)
      have : i ∈ (List.range ops.size).filter (fun j => !listed.getD j true) := List.mem_filter.2 ⟨List.mem_range.2 (Array.getElem?_eq_some_iff.1 ho).1, by simp [hu]⟩
      rw [h0] at this
      cases this
    exact ⟨hr, hQ _ a w (all_listed hb hs hr) hI⟩
  | succ n ih =>
    intro listed a w hs hn hI
    refine ⟨fun hr => hQ _ a w (all_listed hb hs hr) hI, fun i hi => ?_⟩
    obtain ⟨hu, o, ho, hall⟩ := mem_ready.1 hi
    have hio := (Array.getElem?_eq_some_iff.1 ho).1
    have hil : i < listed.size := by omega
    have hlt := leftN_set hio hil hu
    have hni : ¬ listed.getD i false = true := by
      simp [hil] at hu ⊢
      exact hu
    refine wpOp_step ho (fun K' hK => H i o ho _ a w hI hall hni K' (show Shut _ from fun a' w' hI' => hK a' w' ?_))
    refine ih _ a' w' (by simpa using hs) (by omega) ?_
    have e : (fun k => (listed.setIfInBounds i true).getD k false = true) = (fun k => k = i ∨ listed.getD k false = true) := funext fun k => propext (set_listed hil)
    rw [e]
    exact hI'
theorem inv_begin {I : (Nat → Prop) → Act → World → Prop} {id : Nat} {a : Act} {w : World} (hm : P.follows .mixedOrders = true) (hb : backB .any ops = true)
    (h0 : I (fun _ => False) a w.drew)
    (H : ∀ (i : Nat) (o : Oper), ops[i]? = some o → ∀ (L : Nat → Prop) (a : Act) (w : World), I L a w → (∀ e ∈ o.after, Region.binds .any e = true → L e.on) → ¬ L i →
      ∀ K' : Act → World → Prop, Shut (∀ a w, I (fun k => k = i ∨ L k) a w → K' a w) → if Region.wanted o (yielded ops a.tmps) = true then Oper.wp P o a w K' Q else K' (a.put o.dst undef) w)
    (hQ : ∀ (L : Nat → Prop) (a : Act) (w : World), (∀ k, k < ops.size → L k) → I L a w → Q .normal a w) : (Code.region id ops true).wp P Q a w := by
  refine wp_region_any hm (inv_any hb H hQ ops.size _ a w.drew (by simp) ?_ ?_)
  · unfold leftN
    refine Nat.le_trans (List.length_filter_le _ _) (by simp)
  · have e : (fun k => (Array.replicate ops.size false).getD k false = true) = (fun _ => False) := funext fun k => propext ⟨fun h => by
      by_cases hk : k < ops.size
      · simp [hk] at h
      · simp [hk] at h, fun h => h.elim⟩
    rw [e]
    exact h0
theorem late_begin (S : World → Prop) (lates : List Nat) {id : Nat} {a : Act} {w : World} (hm : P.follows .mixedOrders = true)
    (h : wpLate P .any ops Q S lates ops.size (Array.replicate ops.size false) a w.drew) : (Code.region id ops true).wp P Q a w :=
  wp_region_any hm (wpAny_of_late _ _ _ _ h)
/-- Slots turned, one behind the other. -/
def putAll (a : Act) : List (Nat × Value) → Act
  | [] => a
  | (d, v) :: r => putAll (a.put (some d) v) r
/-- A list of operations, each by its number. -/
def EachOp (R : Nat → Oper → Prop) : Nat → List Oper → Prop
  | _, [] => True
  | k, o :: r => R k o ∧ EachOp R (k + 1) r
theorem EachOp.get {R : Nat → Oper → Prop} : ∀ {l : List Oper} {k i : Nat} {o : Oper}, EachOp R k l → l[i]? = some o → R (k + i) o
  | [], _, _, _, _, h => by simp at h
  | x :: r, k, 0, o, h, ho => by
    have : x = o := by simpa using ho
    subst this
    exact h.1
  | x :: r, k, i + 1, o, h, ho => by
    have := h.2.get (i := i) (by simpa using ho)
    rw [show k + (i + 1) = k + 1 + i by omega]
    exact this
/-- The same, where the region turns the slots ds alone. -/
theorem inv_put {id : Nat} {a0 : Act} {w : World} (ds : List Nat) (us0 : List Value) (J : (Nat → Prop) → List Value → World → Prop) (hm : P.follows .mixedOrders = true) (hb : backB .any ops = true)
    (ha : a0 = putAll a0 (ds.zip us0)) (h0 : J (fun _ => False) us0 w.drew)
    (H : EachOp (fun i o => ∀ (L : Nat → Prop) (us : List Value) (w : World), J L us w → (∀ e ∈ o.after, Region.binds .any e = true → L e.on) → ¬ L i →
      ∀ K' : Act → World → Prop, Shut (∀ us' w', J (fun k => k = i ∨ L k) us' w' → K' (putAll a0 (ds.zip us')) w') → if Region.wanted o (yielded ops (putAll a0 (ds.zip us)).tmps) = true then Oper.wp P o (putAll a0 (ds.zip us)) w K' Q else K' ((putAll a0 (ds.zip us)).put o.dst undef) w) 0 ops.toList)
    (hQ : ∀ (L : Nat → Prop) (us : List Value) (w : World), (∀ k, k < ops.size → L k) → J L us w → Q .normal (putAll a0 (ds.zip us)) w) : (Code.region id ops true).wp P Q a0 w := by
  refine inv_begin (I := fun L a w => ∃ us, a = putAll a0 (ds.zip us) ∧ J L us w) hm hb ⟨us0, ha, h0⟩ ?_ ?_
  · rintro i o ho L a w ⟨us, rfl, hJ⟩ hdep hni K' hK
    have h := H.get (i := i) (o := o) (by simpa using ho)
    rw [Nat.zero_add] at h
    exact h L us w hJ hdep hni K' (show Shut _ from fun us' w' hJ' => hK _ w' ⟨us', rfl, hJ'⟩)
  · rintro L a w hL ⟨us, rfl, hJ⟩
    exact hQ L us w hL hJ
theorem EachOp.imp {R R' : Nat → Oper → Prop} (h : ∀ i o, R i o → R' i o) : ∀ {l : List Oper} {k : Nat}, EachOp R k l → EachOp R' k l
  | [], _, _ => trivial
  | _ :: _, _, hl => ⟨h _ _ hl.1, hl.2.imp h⟩
/-- The same, of ten slots by their names. -/
theorem inv_ten {id : Nat} {a0 : Act} {w : World} (d0 d1 d2 d3 d4 d5 d6 d7 d8 d9 : Nat) (v0 v1 v2 v3 v4 v5 v6 v7 v8 v9 : Value) (J : (Nat → Prop) → Value → Value → Value → Value → Value → Value → Value → Value → Value → Value → World → Prop) (hm : P.follows .mixedOrders = true) (hb : backB .any ops = true)
    (ha : a0 = putAll a0 [(d0, v0), (d1, v1), (d2, v2), (d3, v3), (d4, v4), (d5, v5), (d6, v6), (d7, v7), (d8, v8), (d9, v9)]) (h0 : J (fun _ => False) v0 v1 v2 v3 v4 v5 v6 v7 v8 v9 w.drew)
    (H : EachOp (fun i o => ∀ (L : Nat → Prop) (u0 u1 u2 u3 u4 u5 u6 u7 u8 u9 : Value) (w : World), J L u0 u1 u2 u3 u4 u5 u6 u7 u8 u9 w → (∀ e ∈ o.after, Region.binds .any e = true → L e.on) → ¬ L i →
      ∀ K' : Act → World → Prop, Shut (∀ x0 x1 x2 x3 x4 x5 x6 x7 x8 x9 w', J (fun k => k = i ∨ L k) x0 x1 x2 x3 x4 x5 x6 x7 x8 x9 w' → K' (putAll a0 [(d0, x0), (d1, x1), (d2, x2), (d3, x3), (d4, x4), (d5, x5), (d6, x6), (d7, x7), (d8, x8), (d9, x9)]) w') → if Region.wanted o (yielded ops (putAll a0 [(d0, u0), (d1, u1), (d2, u2), (d3, u3), (d4, u4), (d5, u5), (d6, u6), (d7, u7), (d8, u8), (d9, u9)]).tmps) = true then Oper.wp P o (putAll a0 [(d0, u0), (d1, u1), (d2, u2), (d3, u3), (d4, u4), (d5, u5), (d6, u6), (d7, u7), (d8, u8), (d9, u9)]) w K' Q else K' ((putAll a0 [(d0, u0), (d1, u1), (d2, u2), (d3, u3), (d4, u4), (d5, u5), (d6, u6), (d7, u7), (d8, u8), (d9, u9)]).put o.dst undef) w) 0 ops.toList)
    (hQ : ∀ (L : Nat → Prop) (u0 u1 u2 u3 u4 u5 u6 u7 u8 u9 : Value) (w : World), (∀ k, k < ops.size → L k) → J L u0 u1 u2 u3 u4 u5 u6 u7 u8 u9 w → Q .normal (putAll a0 [(d0, u0), (d1, u1), (d2, u2), (d3, u3), (d4, u4), (d5, u5), (d6, u6), (d7, u7), (d8, u8), (d9, u9)]) w) : (Code.region id ops true).wp P Q a0 w := by
  refine inv_put [d0, d1, d2, d3, d4, d5, d6, d7, d8, d9] [v0, v1, v2, v3, v4, v5, v6, v7, v8, v9] (fun L us w => ∃ u0 u1 u2 u3 u4 u5 u6 u7 u8 u9, us = [u0, u1, u2, u3, u4, u5, u6, u7, u8, u9] ∧ J L u0 u1 u2 u3 u4 u5 u6 u7 u8 u9 w) hm hb ha ⟨_, _, _, _, _, _, _, _, _, _, rfl, h0⟩ (H.imp ?_) ?_
  · rintro i o h L us w ⟨u0, u1, u2, u3, u4, u5, u6, u7, u8, u9, rfl, hJ⟩ hdep hni K' hK
    exact h L u0 u1 u2 u3 u4 u5 u6 u7 u8 u9 w hJ hdep hni K' (show Shut _ from fun x0 x1 x2 x3 x4 x5 x6 x7 x8 x9 w' hJ' => hK [x0, x1, x2, x3, x4, x5, x6, x7, x8, x9] w' ⟨_, _, _, _, _, _, _, _, _, _, rfl, hJ'⟩)
  · rintro L us w hL ⟨u0, u1, u2, u3, u4, u5, u6, u7, u8, u9, rfl, hJ⟩
    exact hQ L u0 u1 u2 u3 u4 u5 u6 u7 u8 u9 w hL hJ
end
end Go.Proofs.YtopilodakphhgaaGreatDoor
