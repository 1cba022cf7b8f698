/- The two lists of names and numbers that NamesNumbers compares: errs and limits return a new row of the pairs, and leave the rest as it was. -/
import Derived.Test.YtnpcfmehpchedaaDoorProg
import Derived.WalkKit
import Derived.WalkSpells
namespace Go.Proofs.YtnpcfmehpchedaaDoor
open Go Go.RowKit
def pairs (l : List Int) : List Value := l.flatMap fun n => [.int .i64 n, .int .i64 n]
def errL : List Int := [0, 1, 2, 10, 11, 12, 13, 14, 15, 16, 60, 61, 62, 63, 64, 65, 66, 67, 68, 69, 80, 81, 82, 90, 91, 92, 100, 140, 180, 190, 200, 201, 202, 220, 221, 222]
def limL : List Int := [256, 65536, 64, 16, 16, 256, 1073741824, 64, 8, 8, 1024, 32, 1048576, 1048576, 1100, 65536, 16, 65536, 512, 20, 0, 1, 2, 1, 2, 3, 4, 5, 6, 7, 8, 9, 10, 11, 12, 1, 2, 3, 4]
set_option maxRecDepth 100000
set_option maxHeartbeats 4000000 in
theorem errs_any (w : World) : Calls Tryd.prog 4 #[] w fun e w' => e = .returned (.slice (some ⟨w.heap.size, 0, none⟩) 36 36) ∧ w.alloc (.cells (pairs errL).toArray 25) = w' := by
  go_enter Tryd.func4, Tryd.ntmps4
  go_wp2
  go_ret
  exact ⟨rfl, rfl⟩
set_option maxHeartbeats 4000000 in
theorem limits_any (w : World) : Calls Tryd.prog 5 #[] w fun e w' => e = .returned (.slice (some ⟨w.heap.size, 0, none⟩) 39 39) ∧ w.alloc (.cells (pairs limL).toArray 25) = w' := by
  go_enter Tryd.func5, Tryd.ntmps5
  go_wp2
  go_ret
  exact ⟨rfl, rfl⟩
end Go.Proofs.YtnpcfmehpchedaaDoor
