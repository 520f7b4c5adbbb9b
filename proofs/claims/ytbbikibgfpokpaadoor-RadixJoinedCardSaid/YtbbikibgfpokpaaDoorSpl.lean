/- strings.Split at a separator of one byte. -/
import Derived.Test.YtbbikibgfpokpaaDoorShelf
import Derived.Test.YtbbikibgfpokpaaDoorWWords
import Derived.Test.YtbbikibgfpokpaaDoorLin
import Derived.Lib.IndexBytes
set_option linter.unusedVariables false
namespace Go.Proofs.YtbbikibgfpokpaaDoor.Spl
open Go.RowKit Go.Shelf Go.Proofs.YtbbikibgfpokpaaDoorW.PrintWords

theorem indexB_one (x : ByteArray) (c : UInt8) : Lib.indexB x ⟨#[c]⟩ = Lib.indexByte x.data.toList c := Lib.index_one _ _
theorem countB_one (x : ByteArray) (c : UInt8) : Lib.countB x ⟨#[c]⟩ = Lib.countByte x.data.toList c := Lib.count_one c _

set_option maxHeartbeats 1000000 in
set_option maxRecDepth 100000 in
theorem split_one (s : ByteArray) (c : UInt8) (w : World) (hs : s.size < 4294967281) :
    Calls Tryd.prog 13 #[.string s, .string ⟨#[c]⟩] w fun e w' =>
      e = .returned (.slice (some ⟨w.heap.size, 0, none⟩) (Lib.countB s ⟨#[c]⟩ + 1) (Lib.countB s ⟨#[c]⟩ + 1)) ∧ w' = w.alloc (.cells ((Lib.splitB ⟨#[c]⟩ 0 (Lib.countB s ⟨#[c]⟩) s).map Value.string).toArray 9) := by
  have h1 : 1 ≤ (⟨#[c]⟩ : ByteArray).size := Nat.le_refl 1
  have hle := Lib.countB_le ⟨#[c]⟩ h1 s.size s (Nat.le_refl _)
  have hlen := Lib.splitB_all ⟨#[c]⟩ h1 0 _ s rfl
  have hI : ∀ (x : ByteArray) (cs : Array Value), x.size ≤ s.size → Calls Tryd.prog 25 #[.string x, .string ⟨#[c]⟩] (w.alloc (.cells cs 9)) fun e w' => e = .returned (.int .i64 (Lib.indexB x ⟨#[c]⟩)) ∧ w' = w.alloc (.cells cs 9) := by
    intro x cs _
    rw [indexB_one]
    exact Tryd.strings_Index_one x c _
  have hC : Calls Tryd.prog 24 #[.string s, .string ⟨#[c]⟩] w fun e w' => e = .returned (.int .i64 (Lib.countB s ⟨#[c]⟩)) ∧ w' = w := by
    rw [countB_one]
    exact Tryd.strings_Count_one s c w
  have k := Any.strings_genSplit_core Tryd.lays221 (by kernel_rfl) s ⟨#[c]⟩ 0 (-1) (Lib.countB s ⟨#[c]⟩ + 1) w hs h1 (Nat.zero_le _) hI hC (by decide) (by decide) (by rw [if_pos (by decide)]; omega)
  rw [Nat.add_sub_cancel, hlen] at k
  have e2 : Lib.cellsOf (Lib.splitB ⟨#[c]⟩ 0 (Lib.countB s ⟨#[c]⟩) s) (Lib.countB s ⟨#[c]⟩ + 1) = ((Lib.splitB ⟨#[c]⟩ 0 (Lib.countB s ⟨#[c]⟩) s).map Value.string).toArray := by rw [← hlen]; exact Lib.cellsOf_full _
  rw [e2] at k
  have k2 : Calls Tryd.prog 19 #[.string s, .string ⟨#[c]⟩, .int .i64 0, .int .i64 (-1)] w fun e w' => e = .returned (.slice (some ⟨w.heap.size, 0, none⟩) (Lib.countB s ⟨#[c]⟩ + 1) (Lib.countB s ⟨#[c]⟩ + 1)) ∧ w' = w.alloc (.cells ((Lib.splitB ⟨#[c]⟩ 0 (Lib.countB s ⟨#[c]⟩) s).map Value.string).toArray 9) := k
  clear k e2 hI hC hlen hle
  go_enter Tryd.func13, Tryd.ntmps13
  go_wp2_with (fail)
  refine k2.mono ?_
  rintro e w' ⟨rfl, rfl⟩
  go_wp2
  go_ret
  exact ⟨rfl, rfl⟩

theorem split_data (s : ByteArray) : (Lib.splitB ⟨#[10]⟩ 0 (Lib.countB s ⟨#[10]⟩) s).map (·.data.toList) = Lin.splitNL s.data.toList := by
  rw [Lib.splitB_data, countB_one]
  exact Lin.splitK_nl _

theorem own_strings (l : List ByteArray) (W : World) (base : Nat) (hb : base ≤ W.heap.size) (h : l.length ≤ maxLen) (h0 : 0 < l.length) :
    Kd.R Kd.string 9 (W.alloc (.cells (l.map Value.string).toArray 9)) base (fun _ => True) (.slice (some ⟨W.heap.size, 0, none⟩) l.length l.length) l := by
  refine Kd.R_of_own (enc := Value.string) ?_ (fun _ _ => trivial)
  exact ⟨by simp [encs], .inr ⟨W.heap.size, l.length, _, rfl, hb, heap_alloc_new W _, Nat.le_refl _, h, by simp, by simp only [encs]; exact List.take_of_length_le (by simp)⟩⟩

end Go.Proofs.YtbbikibgfpokpaaDoor.Spl
