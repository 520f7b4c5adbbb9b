/- radix.signs: the table of the 64 signs, in a new block. -/
import Derived.Test.YtbbikibgfpokpaaDoorBld
import Derived.Outline
import Derived.Deep.QuietTactic
import Derived.BigQuiet
import Derived.WalkKit
set_option linter.unusedVariables false
namespace Go.Proofs.YtbbikibgfpokpaaDoor.Rad
open Go.RowKit

def tabI : List Int := [65, 66, 67, 68, 69, 70, 71, 72, 73, 74, 75, 76, 77, 78, 79, 80, 81, 82, 83, 84, 85, 86, 87, 88, 89, 90, 97, 98, 99, 100, 101, 102, 103, 104, 105, 106, 107, 108, 109, 110, 111, 112, 113, 114, 115, 116, 117, 118, 119, 120, 121, 122, 48, 49, 50, 51, 52, 53, 54, 55, 56, 57, 43, 47]
def tabV : Array Value := #[.int .u8 65, .int .u8 66, .int .u8 67, .int .u8 68, .int .u8 69, .int .u8 70, .int .u8 71, .int .u8 72, .int .u8 73, .int .u8 74, .int .u8 75, .int .u8 76, .int .u8 77, .int .u8 78, .int .u8 79, .int .u8 80, .int .u8 81, .int .u8 82, .int .u8 83, .int .u8 84, .int .u8 85, .int .u8 86, .int .u8 87, .int .u8 88, .int .u8 89, .int .u8 90, .int .u8 97, .int .u8 98, .int .u8 99, .int .u8 100, .int .u8 101, .int .u8 102, .int .u8 103, .int .u8 104, .int .u8 105, .int .u8 106, .int .u8 107, .int .u8 108, .int .u8 109, .int .u8 110, .int .u8 111, .int .u8 112, .int .u8 113, .int .u8 114, .int .u8 115, .int .u8 116, .int .u8 117, .int .u8 118, .int .u8 119, .int .u8 120, .int .u8 121, .int .u8 122, .int .u8 48, .int .u8 49, .int .u8 50, .int .u8 51, .int .u8 52, .int .u8 53, .int .u8 54, .int .u8 55, .int .u8 56, .int .u8 57, .int .u8 43, .int .u8 47]

theorem tabV_eq : tabV = (tabI.map (Value.int .u8)).toArray := rfl
theorem tabI_length : tabI.length = 64 := rfl
theorem tabV_get (i : Nat) (h : i < 64) : tabV[i]? = some (.int .u8 (tabI.getD i 0)) := by
  rw [tabV_eq]
  simp [List.getD_eq_getElem?_getD, List.getElem?_eq_getElem (show i < tabI.length by rw [tabI_length]; exact h)]

set_option maxHeartbeats 1000000 in
set_option maxRecDepth 100000 in
theorem signs (w : World) :
    Calls Tryd.prog 18 #[] w fun e w' => e = .returned (.pointer (some ⟨w.heap.size, 0, none⟩)) ∧ w' = w.alloc (.cells tabV 49) := by
  go_enter Tryd.func18, Tryd.ntmps18
  go_wp2
  go_ret
  exact ⟨rfl, rfl⟩

end Go.Proofs.YtbbikibgfpokpaaDoor.Rad
