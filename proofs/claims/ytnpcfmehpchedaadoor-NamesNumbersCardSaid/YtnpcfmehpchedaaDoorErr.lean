/- Errno.Error tells 'error ' and the decimal numeral, where the table of the powers of ten reads as it is laid. -/
import Derived.Test.YtnpcfmehpchedaaDoorShelf
import Derived.WalkKit
import Derived.WalkSpells
import Derived.WalkLawsBesides
namespace Go.Proofs.YtnpcfmehpchedaaDoor
open Go Go.RowKit
theorem below_grow (w : World) (k : Nat) (os : Array Obj) : Below w.heap.size w (Go.Sort.grow (w.drewN k) os) :=
  ⟨rfl, rfl, rfl, by simp, fun j hj => Go.Sort.heap_grow_old (w.drewN k) os (k := j) hj⟩
theorem itoa_any (n : Int) (s : List UInt8) (hs : Lib.itoa n = s) (h0 : -9223372036854775808 ≤ n) (h1 : n ≤ 9223372036854775807) (w : World) (htab : Lib.TabIs Tryd.prog w "internal/strconv.uint64pow10" .u64 Lib.pow10Tab) :
    Calls Tryd.prog 9 #[.int .i64 n] w fun e w' => e = .returned (.string ⟨s.toArray⟩) ∧ Below w.heap.size w w' := by
  subst hs
  refine (Tryd.strconv_Itoa n h0 h1 _ htab).mono ?_
  rintro e w' ⟨rfl, k, os, rfl⟩
  exact ⟨rfl, below_grow w k os⟩
theorem error_any (n : Int) (s : List UInt8) (hs : Lib.itoa n = s) (hl : s.length ≤ 100) (h0 : -9223372036854775808 ≤ n) (h1 : n ≤ 9223372036854775807) (w : World) (htab : Lib.TabIs Tryd.prog w "internal/strconv.uint64pow10" .u64 Lib.pow10Tab) :
    Calls Tryd.prog 6 #[.int .i64 n] w fun e w' => e = .returned (.string ⟨([101, 114, 114, 111, 114, 32] ++ s).toArray⟩) ∧ Below w.heap.size w w' := by
  have H := Lib.hid hs
  clear hs
  go_enter Tryd.func6, Tryd.ntmps6
  go_wp2_with fail
  refine (itoa_any n s H.out h0 h1 _ htab).mono ?_; rintro e w' ⟨rfl, hb⟩
  go_wp2
  go_ret
  exact ⟨congrArg (fun b => Ending.returned (.string b)) (ByteArray.ext (by simp)), hb⟩
end Go.Proofs.YtnpcfmehpchedaaDoor
