/- Merged by a program of this session (wip/tools/pack.py). -/
import Derived.Test.YtcbmjmphicfgpaaGreatDoorProg
import Derived.Shelf.Strings.BuilderK
import Derived.KernelRfl
import Derived.Outline
import Derived.Deep.QuietTactic
import Derived.BigQuiet
import Derived.WalkKit
import Derived.Shelf.Strings.Builder1
import Derived.Shelf.Strings.Builder2
import Derived.Shelf.Strings.OnBuilder
import Derived.Shelf.Small.Wraps
import Derived.Shelf.Strings.BuilderF
import Derived.Shelf.Strings.Search1
import Derived.Shelf.Strings.Search2
import Derived.Shelf.Strings.Search3
import Derived.Shelf.Strings.Count
import Derived.Shelf.LaysM
import Derived.Shelf.Strings.Shaped
import Derived.Shelf.Strings.Prefix
import Derived.Shelf.Strings.Split
import Derived.Shelf.Strings.SplitShaped
import Derived.Shelf.Unicode.DecodeSlow
import Derived.Shelf.Bytes.IndexByte
import Derived.Lib.Hide
import Derived.LoopTactic
import Derived.Deep.LoopGhost
import Derived.Deep.RegionHeld3
import Derived.Laws.BitsLemmas
import Derived.Test.YtcbmjmphicfgpaaGreatDoorVTalBack
import Derived.Laws.CopyOwn
import Derived.Deep.DeepMust
import Derived.Lib.Split
import Derived.Lib.SplitLaws
import Derived.Lib.IndexBytes
import Derived.Below
import Derived.Deep.Draws
import Derived.Deep.AppendLies
import Derived.Maps.AppendAt
import Derived.OwnWalk
import Derived.Laws.BytesArg
import Derived.Laws.MakeOwn
import Derived.Laws.OwnMore
import Derived.Deep.OwnRows
import Derived.Tactics
import Derived.Lib.ConvBytes
import Derived.Laws.Slices
import Derived.RowKit3
import Derived.WideLaws
import Derived.Deep.DeepCutAuto
import Derived.Deep.CutBlock
import Derived.Laws.Rows
import Derived.Lib.AppendStr
import Derived.ArgAppend
import Derived.Laws.IdiomCopy
import Derived.OrdersHeld
import Derived.RowKit
import Derived.Lib.JoinLaws
import Derived.WalkSmall
section
set_option linter.unusedVariables false
namespace Go.Proofs.YtcbmjmphicfgpaaGreatDoor.Bld
open Go.RowKit Go.Shelf

theorem infoByte : (Tryz.prog.info? 5).map (fun i => (i.zero, i.size, i.bytes)) = some (some (.int .u8 0), 1, 1) := by kernel_rfl
theorem sizeBuilder : (Tryz.prog.info? 59).map (fun i => i.size) = some 2 := by kernel_rfl
theorem liesBuilder : liesAt Tryz.prog Tryz.prog.depth 59 (2 / Tryz.prog.cellsOf 59) 0 59 1 = true := by kernel_rfl

set_option maxHeartbeats 1000000 in
set_option maxRecDepth 100000 in
theorem copyCheck_used (b : Nat) (w : World) (h0 : w.cell? ⟨b, 0, none⟩ = some (.pointer (some ⟨b, 0, none⟩))) :
 Calls Tryz.prog 64 #[.pointer (some ⟨b, 0, none⟩)] w fun e w' => e = .returned (.tuple #[]) ∧ w' = w := by
 obtain ⟨j, hj, _⟩ := Option.map_eq_some_iff.1 sizeBuilder
 go_enter Tryz.func64, Tryz.ntmps64
 go_wp2
 rw [Lib.run_neq_ptr_same w _ Tryz.underlying57 hj]
 go_wp2
 go_end0
 exact ⟨rfl, rfl⟩

set_option maxHeartbeats 1000000 in
set_option maxRecDepth 100000 in
theorem copyCheck_fresh (b : Nat) (w : World) (h0 : w.cell? ⟨b, 0, none⟩ = some (.pointer none)) (hsh : w.shape? b = some (59, 2)) (hfz : w.frozen? ⟨b, 0, none⟩ = false) :
 Calls Tryz.prog 64 #[.pointer (some ⟨b, 0, none⟩)] w fun e w' => e = .returned (.tuple #[]) ∧ w' = w.setCell ⟨b, 0, none⟩ (.pointer (some ⟨b, 0, none⟩)) := by
 obtain ⟨j, hj, hjs⟩ := Option.map_eq_some_iff.1 sizeBuilder
 go_enter Tryz.func64, Tryz.ntmps64
 go_wp2
 rw [Lib.run_to_unsafe w ⟨b, 0, none⟩ Tryz.underlying57 Tryz.underlying124 hj (by rw [hjs]; decide) hsh (Nat.zero_lt_succ 1)]
 simp only [Result.andThen]
 rw [Oper.upon_value]
 go_wp2
 rw [run_callFunc_extern Tryz.func108 (by kernel_rfl) (by kernel_rfl) (by kernel_rfl) (e := Extern.AbiNoEscape.same) (by kernel_rfl)]
 rw [Lib.run_noEscape]
 simp only [Result.andThen]
 rw [Oper.upon_value]
 go_wp2
 rw [Lib.run_from_unsafe w ⟨b, 0, none⟩ Tryz.underlying124 Tryz.underlying57 hj hsh liesBuilder]
 simp only [Result.andThen]
 rw [Oper.upon_value]
 go_wp2
 go_end0
 exact ⟨rfl, rfl⟩

theorem copyCheck_k (B b : Nat) (bs : List Value) (w : World) (h : Lib.IsBuilderF 59 5 B b bs w) :
 Calls Tryz.prog 64 #[.pointer (some ⟨b, 0, none⟩)] w fun e w' => e = .returned (.tuple #[]) ∧ (Lib.BuilderAtF 59 5 B b (.pointer (some ⟨b, 0, none⟩)) bs w' ∧ Below B w w' ∧ Lib.OthersKept 5 (some b) w w') := by
 rcases h with h | h
 ·refine (copyCheck_fresh b w h.cell0 h.shape h.frozen0).mono ?_
  rintro e w' ⟨rfl, rfl⟩
  exact ⟨rfl, h.used _, (Below.refl B w).setCell (p := ⟨b, 0, none⟩) h.1 _, (Lib.OthersKept.refl _ _ w).setCell ⟨b, 0, none⟩ rfl _⟩
 ·refine (copyCheck_used b w h.cell0).mono ?_
  rintro e w' ⟨rfl, rfl⟩
  exact ⟨rfl, h, Below.refl B _, Lib.OthersKept.refl _ _ _⟩

set_option maxHeartbeats 2000000 in
set_option maxRecDepth 100000 in
theorem writeByte_k (B b : Nat) (bs : List Value) (c : Int) (w : World) (h : Lib.IsBuilderF 59 5 B b bs w) (hlen : bs.length + 1 ≤ 140737488355328) (hBw : B ≤ w.heap.size) :
 Calls Tryz.prog 34 #[.pointer (some ⟨b, 0, none⟩), .int .u8 c] w fun e w' => e = .returned .nilIface ∧ (Lib.BuilderAtF 59 5 B b (.pointer (some ⟨b, 0, none⟩)) (bs ++ [.int .u8 c]) w' ∧ Below B w w' ∧ Lib.OthersKept 5 (some b) w w') := by
 obtain ⟨i0, hi, hz0, hz1, hz2⟩ := info_parts infoByte
 go_enter Tryz.func34, Tryz.ntmps34
 go_wp2_with (go_at_call 64; refine (copyCheck_k B b bs _ h).mono ?_)
 rintro e w1 ⟨rfl, h1, hb1, hk1⟩
 obtain ⟨hB, v, hbk, hown, hne⟩ := h1
 have c0 : w1.cell? ⟨b, 0, none⟩ = some (.pointer (some ⟨b, 0, none⟩)) := by rw [Lib.cell_of_heap hbk]; rfl
 have c1 : w1.cell? ⟨b, 1, none⟩ = some v := by rw [Lib.cell_of_heap hbk]; rfl
 go_wp2_with (at_builtin; refine wpList_append_ownF _ rfl _ _ 29 rfl B 5 i0 (.int .u8 0) 1 1 Tryz.underlying29 hi hz0 hz1 hz2 rfl (by decide) _ _ _ rfl (hown.alloc _) ⟨w1.heap.size, 0, none⟩ 1 1 [.int .u8 c] rfl rfl ?c1 ?c2 ?c3 ?c4 ?c5 ?_)
 case c1 =>
  intro j u hj
  match j, hj with
  | 0, hj => simp at hj; subst hj; simp [Addr.add]
 case c2 => intro u hu; simp at hu; subst hu; rfl
 case c3 => unfold maxLen; omega
 case c4 => omega
 case c5 => have := hb1.size; simp; omega
 intro v' w2 hown' hgrow _
 have hlt : b < w1.heap.size := by
  rcases Nat.lt_or_ge b w1.heap.size with h' | h'
  ·exact h'
  ·simp [Array.getElem?_eq_none h'] at hbk
 have hb2 : w2.heap[b]? = some (.cells #[.pointer (some ⟨b, 0, none⟩), v] 59 (0, 0)) := by
  rw [hgrow.block b (by simp; omega) (fun e => hne e.symm), Lib.alloc_old w1 _ b hlt]
  exact hbk
 have d0 : w2.cell? ⟨b, 0, none⟩ = some (.pointer (some ⟨b, 0, none⟩)) := by rw [Lib.cell_of_heap hb2]; rfl
 have d1 : w2.cell? ⟨b, 1, none⟩ = some v := by rw [Lib.cell_of_heap hb2]; rfl
 have f1 : w2.frozen? ⟨b, 1, none⟩ = false := Lib.frozen_of_heap hb2 1
 obtain ⟨g, cap, rfl⟩ : ∃ g cap, v' = .slice (some ⟨g, 0, none⟩) (bs.length + 1) cap := by
  rcases hown'.2 with ⟨_, h0⟩ | ⟨g, cap, cur, fz, hv, _⟩
  ·omega
  ·exact ⟨g, cap, hv⟩
 go_wp2
 go_ret
 refine ⟨rfl, ?_, ?_, ((hk1.alloc _).grown hgrow (Lib.ownsRowF_kind (hown.alloc _))).setCell ⟨b, 1, none⟩ rfl _⟩
 ·exact Lib.BuilderAtF.put (T := 59) (e := 5) hB hb2 (bs' := bs ++ [.int .u8 c]) (by simpa using hown') (by decide)
 ·exact ((hb1.alloc (by have := hb1.size; omega) _).grown hgrow (by have := hb1.size; simp; omega) (fun k hk => (hown.lt k hk).1)).setCell (p := ⟨b, 1, none⟩) hB _

end Go.Proofs.YtcbmjmphicfgpaaGreatDoor.Bld
end

section
set_option linter.unusedVariables false
namespace Go.Proofs.YtcbmjmphicfgpaaGreatDoor.Rad
open Go.RowKit

def tabI : List Int := [65, 66, 67, 68, 69, 70, 71, 72, 73, 74, 75, 76, 77, 78, 79, 80, 81, 82, 83, 84, 85, 86, 87, 88, 89, 90, 97, 98, 99, 100, 101, 102, 103, 104, 105, 106, 107, 108, 109, 110, 111, 112, 113, 114, 115, 116, 117, 118, 119, 120, 121, 122, 48, 49, 50, 51, 52, 53, 54, 55, 56, 57, 43, 47]
def tabV : Array Value := #[.int .u8 65, .int .u8 66, .int .u8 67, .int .u8 68, .int .u8 69, .int .u8 70, .int .u8 71, .int .u8 72, .int .u8 73, .int .u8 74, .int .u8 75, .int .u8 76, .int .u8 77, .int .u8 78, .int .u8 79, .int .u8 80, .int .u8 81, .int .u8 82, .int .u8 83, .int .u8 84, .int .u8 85, .int .u8 86, .int .u8 87, .int .u8 88, .int .u8 89, .int .u8 90, .int .u8 97, .int .u8 98, .int .u8 99, .int .u8 100, .int .u8 101, .int .u8 102, .int .u8 103, .int .u8 104, .int .u8 105, .int .u8 106, .int .u8 107, .int .u8 108, .int .u8 109, .int .u8 110, .int .u8 111, .int .u8 112, .int .u8 113, .int .u8 114, .int .u8 115, .int .u8 116, .int .u8 117, .int .u8 118, .int .u8 119, .int .u8 120, .int .u8 121, .int .u8 122, .int .u8 48, .int .u8 49, .int .u8 50, .int .u8 51, .int .u8 52, .int .u8 53, .int .u8 54, .int .u8 55, .int .u8 56, .int .u8 57, .int .u8 43, .int .u8 47]

theorem tabV_eq : tabV = (tabI.map (Value.int .u8)).toArray := rfl
theorem tabI_length : tabI.length = 64 := rfl
theorem tabV_get (i : Nat) (h : i < 64) : tabV[i]? = some (.int .u8 (tabI.getD i 0)) := by
 rw [tabV_eq]
 simp [List.getD_eq_getElem?_getD, List.getElem?_eq_getElem (show i < tabI.length by rw [tabI_length]; exact h)]

set_option maxHeartbeats 1000000 in
set_option maxRecDepth 100000 in
theorem signs (w : World) :
 Calls Tryz.prog 65 #[] w fun e w' => e = .returned (.pointer (some ⟨w.heap.size, 0, none⟩)) ∧ w' = w.alloc (.cells tabV 126) := by
 go_enter Tryz.func65, Tryz.ntmps65
 go_wp2
 go_ret
 exact ⟨rfl, rfl⟩

end Go.Proofs.YtcbmjmphicfgpaaGreatDoor.Rad
end

namespace Go.Proofs
open Go.Shelf
def Tryz.lays169_ren : Go.Shelf.Ren := ⟨fun | 169 => 36 | n => n, fun | 70 => 57 | 9 => 9 | 0 => 0 | 72 => 59 | 37 => 29 | 127 => 94 | 3 => 3 | 5 => 5 | n => n, fun | n => n⟩
theorem Tryz.lays169 : Go.Proofs.Lays.n169 Tryz.prog Tryz.lays169_ren := {
 mixed := by kernel_rfl
 f169 := Tryz.func36.trans (congrArg some (by kernel_rfl))
 t0 := Tryz.underlying0
 a0 := Tryz.isAgg0
 z0 := Tryz.sizeOf0
 v0 := Tryz.zeroValue0
 t3 := Tryz.underlying3
 a3 := Tryz.isAgg3
 z3 := Tryz.sizeOf3
 v3 := Tryz.zeroValue3
 t9 := Tryz.underlying9
 a9 := Tryz.isAgg9
 z9 := Tryz.sizeOf9
 v9 := Tryz.zeroValue9
 t37 := Tryz.underlying29
 a37 := Tryz.isAgg29
 z37 := Tryz.sizeOf29
 v37 := Tryz.zeroValue29
 t70 := Tryz.underlying57
 a70 := Tryz.isAgg57
 z70 := Tryz.sizeOf57
 v70 := Tryz.zeroValue57
 t72 := Tryz.underlying59
 a72 := Tryz.isAgg59
 z72 := Tryz.sizeOf59
 v72 := Tryz.zeroValue59
 t127 := Tryz.underlying94
 a127 := Tryz.isAgg94
 z127 := Tryz.sizeOf94
 v127 := Tryz.zeroValue94 }
theorem Tryz.Builder_Extra_169 : Builder.Extra Tryz.prog Tryz.lays169_ren := {
 sizeBuilder := by kernel_rfl
 liesBuilder := by kernel_rfl
 t5 := Tryz.underlying5
 a5 := Tryz.isAgg5
 z5 := Tryz.sizeOf5
 v5 := Tryz.zeroValue5
 infoByte := by kernel_rfl
 cellsByte := by kernel_rfl
 sizeByte := by kernel_rfl
 neB5 := by decide }
def Tryz.lays156_ren : Go.Shelf.Ren := ⟨fun | 156 => 77 | 165 => 115 | 166 => 33 | 169 => 36 | 240 => 64 | 241 => 140 | 276 => 108 | 277 => 154 | n => n, fun | 31 => 28 | 9 => 9 | 3 => 3 | 4 => 4 | 0 => 0 | 20 => 20 | 72 => 59 | 76 => 62 | 70 => 57 | 37 => 29 | 75 => 61 | 127 => 94 | 164 => 124 | 5 => 5 | 80 => 67 | n => n, fun | n => n⟩
theorem Tryz.lays156 : Go.Proofs.Lays.n156 Tryz.prog Tryz.lays156_ren := {
 mixed := by kernel_rfl
 f156 := Tryz.func77.trans (congrArg some (by kernel_rfl))
 f165 := Tryz.func115.trans (congrArg some (by kernel_rfl))
 f166 := Tryz.func33.trans (congrArg some (by kernel_rfl))
 f169 := Tryz.func36.trans (congrArg some (by kernel_rfl))
 f240 := Tryz.func64.trans (congrArg some (by kernel_rfl))
 f241 := Tryz.func140.trans (congrArg some (by kernel_rfl))
 f276 := Tryz.func108.trans (congrArg some (by kernel_rfl))
 f277 := Tryz.func154.trans (congrArg some (by kernel_rfl))
 t0 := Tryz.underlying0
 a0 := Tryz.isAgg0
 z0 := Tryz.sizeOf0
 v0 := Tryz.zeroValue0
 t3 := Tryz.underlying3
 a3 := Tryz.isAgg3
 z3 := Tryz.sizeOf3
 v3 := Tryz.zeroValue3
 t4 := Tryz.underlying4
 a4 := Tryz.isAgg4
 z4 := Tryz.sizeOf4
 v4 := Tryz.zeroValue4
 t9 := Tryz.underlying9
 a9 := Tryz.isAgg9
 z9 := Tryz.sizeOf9
 v9 := Tryz.zeroValue9
 t20 := Tryz.underlying20
 a20 := Tryz.isAgg20
 z20 := Tryz.sizeOf20
 v20 := Tryz.zeroValue20
 t31 := Tryz.underlying28
 a31 := Tryz.isAgg28
 z31 := Tryz.sizeOf28
 v31 := Tryz.zeroValue28
 t37 := Tryz.underlying29
 a37 := Tryz.isAgg29
 z37 := Tryz.sizeOf29
 v37 := Tryz.zeroValue29
 t70 := Tryz.underlying57
 a70 := Tryz.isAgg57
 z70 := Tryz.sizeOf57
 v70 := Tryz.zeroValue57
 t72 := Tryz.underlying59
 a72 := Tryz.isAgg59
 z72 := Tryz.sizeOf59
 v72 := Tryz.zeroValue59
 t75 := Tryz.underlying61
 a75 := Tryz.isAgg61
 z75 := Tryz.sizeOf61
 v75 := Tryz.zeroValue61
 t76 := Tryz.underlying62
 a76 := Tryz.isAgg62
 z76 := Tryz.sizeOf62
 v76 := Tryz.zeroValue62
 t127 := Tryz.underlying94
 a127 := Tryz.isAgg94
 z127 := Tryz.sizeOf94
 v127 := Tryz.zeroValue94
 t164 := Tryz.underlying124
 a164 := Tryz.isAgg124
 z164 := Tryz.sizeOf124
 v164 := Tryz.zeroValue124 }
theorem Tryz.Builder_Extra_156 : Builder.Extra Tryz.prog Tryz.lays156_ren := {
 sizeBuilder := by kernel_rfl
 liesBuilder := by kernel_rfl
 t5 := Tryz.underlying5
 a5 := Tryz.isAgg5
 z5 := Tryz.sizeOf5
 v5 := Tryz.zeroValue5
 infoByte := by kernel_rfl
 cellsByte := by kernel_rfl
 sizeByte := by kernel_rfl
 neB5 := by decide }
open Go.RowKit in
/-- No element: the empty string; the world is as it was. (Whatever the slice's address and capacity: a nil slice too.) (LAID: no walk: one application.) -/
theorem Tryz.strings_Join_none (a : Option Addr) (c : Nat) (sep : ByteArray) (w : World) :
 Calls Tryz.prog 77 #[.slice a 0 c, .string sep] w fun e w' => e = .returned (.string ⟨#[]⟩) ∧ w' = w := Any.strings_Join_none Tryz.lays156 Tryz.Builder_Extra_156 a c sep w
open Go.RowKit in
/-- strings.Join: "Join concatenates the elements of its first argument to create a single string. The separator string sep is placed between elements in the resulting string.": HOWEVER MANY ELEMENTS. Below the heap's end the world is as it was. (LAID: no walk: one application.) -/
theorem Tryz.strings_Join (bk o c : Nat) (xs : List ByteArray) (sep : ByteArray) (w : World) (hcells : ∀ (j : Nat) x, xs[j]? = some x → w.cell? ⟨bk, o + j, none⟩ = some (.string x)) (hbk : bk < w.heap.size) (hN : xs.length ≤ 140737488355328) (hcap : xs.length ≤ c) (hlen : (Lib.join (xs.map (·.data.toList)) sep.data.toList).length ≤ 140737488355328) :
 Calls Tryz.prog 77 #[.slice (some ⟨bk, o, none⟩) xs.length c, .string sep] w fun e w' => e = .returned (.string ⟨(Lib.join (xs.map (·.data.toList)) sep.data.toList).toArray⟩) ∧ Below w.heap.size w w' := Any.strings_Join Tryz.lays156 Tryz.Builder_Extra_156 bk o c xs sep w hcells hbk hN hcap hlen
def Tryz.lays103_ren : Go.Shelf.Ren := ⟨fun | 103 => 24 | 210 => 53 | 206 => 97 | n => n, fun | 9 => 9 | 4 => 4 | 24 => 44 | 3 => 3 | n => n, fun | n => n⟩
theorem Tryz.lays103 : Go.Proofs.Lays.n103 Tryz.prog Tryz.lays103_ren := {
 mixed := by kernel_rfl
 f103 := Tryz.func24.trans (congrArg some (by kernel_rfl))
 f206 := Tryz.func97.trans (congrArg some (by kernel_rfl))
 f210 := Tryz.func53.trans (congrArg some (by kernel_rfl))
 t3 := Tryz.underlying3
 a3 := Tryz.isAgg3
 z3 := Tryz.sizeOf3
 v3 := Tryz.zeroValue3
 t4 := Tryz.underlying4
 a4 := Tryz.isAgg4
 z4 := Tryz.sizeOf4
 v4 := Tryz.zeroValue4
 t9 := Tryz.underlying9
 a9 := Tryz.isAgg9
 z9 := Tryz.sizeOf9
 v9 := Tryz.zeroValue9
 t24 := Tryz.underlying44
 a24 := Tryz.isAgg44
 z24 := Tryz.sizeOf44
 v24 := Tryz.zeroValue44 }
open Go.RowKit in
/-- strings.CutPrefix: "CutPrefix returns s without the provided leading prefix string and reports whether it found the prefix. If s doesn't start with prefix, CutPrefix returns s, false. If prefix is the empty string, CutPrefix returns s, true.": IT RETURNS '(Lib.trimPrefix s p, Lib.hasPrefix s p)'; the world is as it was. (LAID: no walk: one application.) -/
theorem Tryz.strings_CutPrefix (s p : ByteArray) (w : World) :
 Calls Tryz.prog 24 #[.string s, .string p] w fun e w' => e = .returned (.tuple #[.string ⟨(Lib.trimPrefix s.data.toList p.data.toList).toArray⟩, .bool (Lib.hasPrefix s.data.toList p.data.toList)]) ∧ w' = w := Any.strings_CutPrefix Tryz.lays103 s p w
open Go.RowKit in
/-- (*strings.Builder).String: "String returns the accumulated string.": WHATEVER THE BUILDER HOLDS; THE FORM '_k': OVER 'Lib.IsBuilderF' (a builder that 'String()' may have read), AND WITH THE FRAME THAT REACHES ABOVE THE BUILDER: 'Lib.OthersKept': every block that is not b and is no row of uint8's stands as it stood: the iterator of a range among them. (LAID: no walk: one application.) -/
theorem Tryz.Builder_String_any_k (B b : Nat) (l : List UInt8) (w : World) (h : Lib.IsBuilderF 59 5 B b (Lib.byteCells l) w) (hBw : B ≤ w.heap.size) :
 Calls Tryz.prog 36 #[.pointer (some ⟨b, 0, none⟩)] w fun e w' => e = .returned (.string ⟨l.toArray⟩) ∧ (Lib.IsBuilderF 59 5 B b (Lib.byteCells l) w' ∧ Below B w w' ∧ Lib.OthersKept 5 (some b) w w') := Any.Builder_String_any_k Tryz.lays169 Tryz.Builder_Extra_169 B b l w h hBw
def Tryz.lays143_ren : Go.Shelf.Ren := ⟨fun | 143 => 100 | 219 => 135 | 217 => 148 | 225 => 149 | 224 => 150 | 267 => 151 | 266 => 158 | 314 => 159 | n => n, fun | 9 => 9 | 3 => 3 | 4 => 4 | 5 => 5 | 46 => 93 | 146 => 163 | 51 => 30 | n => n, fun | 1 => 0 | n => n⟩
theorem Tryz.lays143 : Go.Proofs.Lays.n143 Tryz.prog Tryz.lays143_ren := {
 mixed := by kernel_rfl
 f143 := Tryz.func100.trans (congrArg some (by kernel_rfl))
 f217 := Tryz.func148.trans (congrArg some (by kernel_rfl))
 f219 := Tryz.func135.trans (congrArg some (by kernel_rfl))
 f224 := Tryz.func150.trans (congrArg some (by kernel_rfl))
 f225 := Tryz.func149.trans (congrArg some (by kernel_rfl))
 f266 := Tryz.func158.trans (congrArg some (by kernel_rfl))
 f267 := Tryz.func151.trans (congrArg some (by kernel_rfl))
 f314 := Tryz.func159.trans (congrArg some (by kernel_rfl))
 t3 := Tryz.underlying3
 a3 := Tryz.isAgg3
 z3 := Tryz.sizeOf3
 v3 := Tryz.zeroValue3
 t4 := Tryz.underlying4
 a4 := Tryz.isAgg4
 z4 := Tryz.sizeOf4
 v4 := Tryz.zeroValue4
 t5 := Tryz.underlying5
 a5 := Tryz.isAgg5
 z5 := Tryz.sizeOf5
 v5 := Tryz.zeroValue5
 t9 := Tryz.underlying9
 a9 := Tryz.isAgg9
 z9 := Tryz.sizeOf9
 v9 := Tryz.zeroValue9
 t46 := Tryz.underlying93
 a46 := Tryz.isAgg93
 z46 := Tryz.sizeOf93
 v46 := Tryz.zeroValue93
 t51 := Tryz.underlying30
 a51 := Tryz.isAgg30
 z51 := Tryz.sizeOf30
 v51 := Tryz.zeroValue30
 t146 := Tryz.underlying163
 a146 := Tryz.isAgg163
 z146 := Tryz.sizeOf163
 v146 := Tryz.zeroValue163
 g1 := by kernel_rfl }
open Go.RowKit Go.Lib in
/-- strings.Index: "Index returns the index of the first instance of substr in s, or -1 if substr is not present in s.": AT A substr OF ONE BYTE c: IT RETURNS 'Lib.indexByte s c'; the world is as it was. (LAID: no walk: one application.) -/
theorem Tryz.strings_Index_one (s : ByteArray) (c : UInt8) (w : World) :
 Calls Tryz.prog 100 #[.string s, .string ⟨#[c]⟩] w fun e w' => e = .returned (.int .i64 (Lib.indexByte s.data.toList c)) ∧ w' = w := Any.strings_Index_one Tryz.lays143 s c w
def Tryz.lays138_ren : Go.Shelf.Ren := ⟨fun | 138 => 99 | 195 => 132 | 218 => 134 | 143 => 100 | 219 => 135 | 217 => 148 | 225 => 149 | 224 => 150 | 267 => 151 | 266 => 158 | 314 => 159 | n => n, fun | 9 => 9 | 3 => 3 | 4 => 4 | 5 => 5 | 0 => 0 | 46 => 93 | 146 => 163 | 51 => 30 | n => n, fun | 1 => 0 | n => n⟩
theorem Tryz.lays138 : Go.Proofs.Lays.n138 Tryz.prog Tryz.lays138_ren := {
 mixed := by kernel_rfl
 f138 := Tryz.func99.trans (congrArg some (by kernel_rfl))
 f143 := Tryz.func100.trans (congrArg some (by kernel_rfl))
 f195 := Tryz.func132.trans (congrArg some (by kernel_rfl))
 f217 := Tryz.func148.trans (congrArg some (by kernel_rfl))
 f218 := Tryz.func134.trans (congrArg some (by kernel_rfl))
 f219 := Tryz.func135.trans (congrArg some (by kernel_rfl))
 f224 := Tryz.func150.trans (congrArg some (by kernel_rfl))
 f225 := Tryz.func149.trans (congrArg some (by kernel_rfl))
 f266 := Tryz.func158.trans (congrArg some (by kernel_rfl))
 f267 := Tryz.func151.trans (congrArg some (by kernel_rfl))
 f314 := Tryz.func159.trans (congrArg some (by kernel_rfl))
 t0 := Tryz.underlying0
 a0 := Tryz.isAgg0
 z0 := Tryz.sizeOf0
 v0 := Tryz.zeroValue0
 t3 := Tryz.underlying3
 a3 := Tryz.isAgg3
 z3 := Tryz.sizeOf3
 v3 := Tryz.zeroValue3
 t4 := Tryz.underlying4
 a4 := Tryz.isAgg4
 z4 := Tryz.sizeOf4
 v4 := Tryz.zeroValue4
 t5 := Tryz.underlying5
 a5 := Tryz.isAgg5
 z5 := Tryz.sizeOf5
 v5 := Tryz.zeroValue5
 t9 := Tryz.underlying9
 a9 := Tryz.isAgg9
 z9 := Tryz.sizeOf9
 v9 := Tryz.zeroValue9
 t46 := Tryz.underlying93
 a46 := Tryz.isAgg93
 z46 := Tryz.sizeOf93
 v46 := Tryz.zeroValue93
 t51 := Tryz.underlying30
 a51 := Tryz.isAgg30
 z51 := Tryz.sizeOf30
 v51 := Tryz.zeroValue30
 t146 := Tryz.underlying163
 a146 := Tryz.isAgg163
 z146 := Tryz.sizeOf163
 v146 := Tryz.zeroValue163
 g1 := by kernel_rfl }
open Go.RowKit Go.Lib in
/-- strings.Count AT A substr OF ONE BYTE ('hp'): "Count counts the number of non-overlapping instances of substr in s.": IT RETURNS 'Lib.countByte s (that byte)'; the world is as it was. ✋ NO CONTRACT HERE YET at an empty substr (utf8.RuneCountInString) or at a longer one (a loop over strings.Index). (LAID: no walk: one application.) -/
theorem Tryz.strings_Count_one (s : ByteArray) (c : UInt8) (w : World) :
 Calls Tryz.prog 99 #[.string s, .string ⟨#[c]⟩] w fun e w' => e = .returned (.int .i64 (Lib.countByte s.data.toList c)) ∧ w' = w := Any.strings_Count_one Tryz.lays138 s c w
def Tryz.lays99_ren : Go.Shelf.Ren := ⟨fun | 99 => 75 | 206 => 97 | n => n, fun | 9 => 9 | 4 => 4 | 3 => 3 | n => n, fun | n => n⟩
theorem Tryz.lays99 : Go.Proofs.Lays.n99 Tryz.prog Tryz.lays99_ren := {
 mixed := by kernel_rfl
 f99 := Tryz.func75.trans (congrArg some (by kernel_rfl))
 f206 := Tryz.func97.trans (congrArg some (by kernel_rfl))
 t3 := Tryz.underlying3
 a3 := Tryz.isAgg3
 z3 := Tryz.sizeOf3
 v3 := Tryz.zeroValue3
 t4 := Tryz.underlying4
 a4 := Tryz.isAgg4
 z4 := Tryz.sizeOf4
 v4 := Tryz.zeroValue4
 t9 := Tryz.underlying9
 a9 := Tryz.isAgg9
 z9 := Tryz.sizeOf9
 v9 := Tryz.zeroValue9 }
open Go.RowKit Go.Lib in
/-- strings.HasPrefix: "HasPrefix reports whether the string s begins with prefix.": IT RETURNS 'Lib.hasPrefix s prefix'; the world is as it was. (LAID: no walk: one application.) -/
theorem Tryz.strings_HasPrefix (s p : ByteArray) (w : World) :
 Calls Tryz.prog 75 #[.string s, .string p] w fun e w' => e = .returned (.bool (Lib.hasPrefix s.data.toList p.data.toList)) ∧ w' = w := Any.strings_HasPrefix Tryz.lays99 s p w
def Tryz.lays207_ren : Go.Shelf.Ren := ⟨fun | 207 => 56 | n => n, fun | 9 => 9 | 4 => 4 | 3 => 3 | n => n, fun | n => n⟩
theorem Tryz.lays207 : Go.Proofs.Lays.n207 Tryz.prog Tryz.lays207_ren := {
 mixed := by kernel_rfl
 f207 := Tryz.func56.trans (congrArg some (by kernel_rfl))
 t3 := Tryz.underlying3
 a3 := Tryz.isAgg3
 z3 := Tryz.sizeOf3
 v3 := Tryz.zeroValue3
 t4 := Tryz.underlying4
 a4 := Tryz.isAgg4
 z4 := Tryz.sizeOf4
 v4 := Tryz.zeroValue4
 t9 := Tryz.underlying9
 a9 := Tryz.isAgg9
 z9 := Tryz.sizeOf9
 v9 := Tryz.zeroValue9 }
open Go.RowKit Go.Lib in
/-- internal/stringslite.HasSuffix (what strings.HasSuffix calls). (LAID: no walk: one application.) -/
theorem Tryz.stringslite_HasSuffix (s p : ByteArray) (w : World) (hs : s.size ≤ 9223372036854775807) :
 Calls Tryz.prog 56 #[.string s, .string p] w fun e w' => e = .returned (.bool (Lib.hasSuffix s.data.toList p.data.toList)) ∧ w' = w := Any.stringslite_HasSuffix Tryz.lays207 s p w hs
def Tryz.lays100_ren : Go.Shelf.Ren := ⟨fun | 100 => 27 | 207 => 56 | n => n, fun | 9 => 9 | 4 => 4 | 3 => 3 | n => n, fun | n => n⟩
theorem Tryz.lays100 : Go.Proofs.Lays.n100 Tryz.prog Tryz.lays100_ren := {
 mixed := by kernel_rfl
 f100 := Tryz.func27.trans (congrArg some (by kernel_rfl))
 f207 := Tryz.func56.trans (congrArg some (by kernel_rfl))
 t3 := Tryz.underlying3
 a3 := Tryz.isAgg3
 z3 := Tryz.sizeOf3
 v3 := Tryz.zeroValue3
 t4 := Tryz.underlying4
 a4 := Tryz.isAgg4
 z4 := Tryz.sizeOf4
 v4 := Tryz.zeroValue4
 t9 := Tryz.underlying9
 a9 := Tryz.isAgg9
 z9 := Tryz.sizeOf9
 v9 := Tryz.zeroValue9 }
open Go.RowKit Go.Lib in
/-- strings.HasSuffix: "HasSuffix reports whether the string s ends with suffix.": IT RETURNS 'Lib.hasSuffix s suffix'; the world is as it was. ('hs': no Go string is longer: a caller has it of every string that it was handed.) (LAID: no walk: one application.) -/
theorem Tryz.strings_HasSuffix (s p : ByteArray) (w : World) (hs : s.size ≤ 9223372036854775807) :
 Calls Tryz.prog 27 #[.string s, .string p] w fun e w' => e = .returned (.bool (Lib.hasSuffix s.data.toList p.data.toList)) ∧ w' = w := Any.strings_HasSuffix Tryz.lays100 s p w hs
def Tryz.lays102_ren : Go.Shelf.Ren := ⟨fun | 102 => 26 | 209 => 55 | 207 => 56 | n => n, fun | 9 => 9 | 4 => 4 | 3 => 3 | n => n, fun | n => n⟩
theorem Tryz.lays102 : Go.Proofs.Lays.n102 Tryz.prog Tryz.lays102_ren := {
 mixed := by kernel_rfl
 f102 := Tryz.func26.trans (congrArg some (by kernel_rfl))
 f207 := Tryz.func56.trans (congrArg some (by kernel_rfl))
 f209 := Tryz.func55.trans (congrArg some (by kernel_rfl))
 t3 := Tryz.underlying3
 a3 := Tryz.isAgg3
 z3 := Tryz.sizeOf3
 v3 := Tryz.zeroValue3
 t4 := Tryz.underlying4
 a4 := Tryz.isAgg4
 z4 := Tryz.sizeOf4
 v4 := Tryz.zeroValue4
 t9 := Tryz.underlying9
 a9 := Tryz.isAgg9
 z9 := Tryz.sizeOf9
 v9 := Tryz.zeroValue9 }
open Go.RowKit Go.Lib in
/-- strings.TrimSuffix: "TrimSuffix returns s without the provided trailing suffix string. If s doesn't end with suffix, s is returned unchanged.": IT RETURNS 'Lib.trimSuffix s suffix'; the world is as it was. (LAID: no walk: one application.) -/
theorem Tryz.strings_TrimSuffix (s p : ByteArray) (w : World) (hs : s.size ≤ 9223372036854775807) :
 Calls Tryz.prog 26 #[.string s, .string p] w fun e w' => e = .returned (.string ⟨(Lib.trimSuffix s.data.toList p.data.toList).toArray⟩) ∧ w' = w := Any.strings_TrimSuffix Tryz.lays102 s p w hs
def Tryz.lays221_ren : Go.Shelf.Ren := ⟨fun | 221 => 54 | 268 => 98 | 138 => 99 | 143 => 100 | 195 => 132 | 197 => 133 | 218 => 134 | 219 => 135 | 260 => 147 | 217 => 148 | 225 => 149 | 224 => 150 | 267 => 151 | 266 => 158 | 314 => 159 | n => n, fun | 9 => 9 | 3 => 3 | 31 => 28 | 4 => 4 | 0 => 0 | 105 => 142 | 21 => 21 | 5 => 5 | 46 => 93 | 119 => 159 | 139 => 162 | 138 => 161 | 146 => 163 | 51 => 30 | n => n, fun | 1 => 0 | 3 => 1 | 4 => 2 | n => n⟩
theorem Tryz.lays221 : Go.Proofs.Lays.n221 Tryz.prog Tryz.lays221_ren := {
 mixed := by kernel_rfl
 f138 := Tryz.func99.trans (congrArg some (by kernel_rfl))
 f143 := Tryz.func100.trans (congrArg some (by kernel_rfl))
 f195 := Tryz.func132.trans (congrArg some (by kernel_rfl))
 f197 := Tryz.func133.trans (congrArg some (by kernel_rfl))
 f217 := Tryz.func148.trans (congrArg some (by kernel_rfl))
 f218 := Tryz.func134.trans (congrArg some (by kernel_rfl))
 f219 := Tryz.func135.trans (congrArg some (by kernel_rfl))
 f221 := Tryz.func54.trans (congrArg some (by kernel_rfl))
 f224 := Tryz.func150.trans (congrArg some (by kernel_rfl))
 f225 := Tryz.func149.trans (congrArg some (by kernel_rfl))
 f260 := Tryz.func147.trans (congrArg some (by kernel_rfl))
 f266 := Tryz.func158.trans (congrArg some (by kernel_rfl))
 f267 := Tryz.func151.trans (congrArg some (by kernel_rfl))
 f268 := Tryz.func98.trans (congrArg some (by kernel_rfl))
 f314 := Tryz.func159.trans (congrArg some (by kernel_rfl))
 t0 := Tryz.underlying0
 a0 := Tryz.isAgg0
 z0 := Tryz.sizeOf0
 v0 := Tryz.zeroValue0
 t3 := Tryz.underlying3
 a3 := Tryz.isAgg3
 z3 := Tryz.sizeOf3
 v3 := Tryz.zeroValue3
 t4 := Tryz.underlying4
 a4 := Tryz.isAgg4
 z4 := Tryz.sizeOf4
 v4 := Tryz.zeroValue4
 t5 := Tryz.underlying5
 a5 := Tryz.isAgg5
 z5 := Tryz.sizeOf5
 v5 := Tryz.zeroValue5
 t9 := Tryz.underlying9
 a9 := Tryz.isAgg9
 z9 := Tryz.sizeOf9
 v9 := Tryz.zeroValue9
 t21 := Tryz.underlying21
 a21 := Tryz.isAgg21
 z21 := Tryz.sizeOf21
 v21 := Tryz.zeroValue21
 t31 := Tryz.underlying28
 a31 := Tryz.isAgg28
 z31 := Tryz.sizeOf28
 v31 := Tryz.zeroValue28
 t46 := Tryz.underlying93
 a46 := Tryz.isAgg93
 z46 := Tryz.sizeOf93
 v46 := Tryz.zeroValue93
 t51 := Tryz.underlying30
 a51 := Tryz.isAgg30
 z51 := Tryz.sizeOf30
 v51 := Tryz.zeroValue30
 t105 := Tryz.underlying142
 a105 := Tryz.isAgg142
 z105 := Tryz.sizeOf142
 v105 := Tryz.zeroValue142
 t119 := Tryz.underlying159
 a119 := Tryz.isAgg159
 z119 := Tryz.sizeOf159
 t138 := Tryz.underlying161
 a138 := Tryz.isAgg161
 z138 := Tryz.sizeOf161
 v138 := Tryz.zeroValue161
 t139 := Tryz.underlying162
 a139 := Tryz.isAgg162
 z139 := Tryz.sizeOf162
 v139 := Tryz.zeroValue162
 t146 := Tryz.underlying163
 a146 := Tryz.isAgg163
 z146 := Tryz.sizeOf163
 v146 := Tryz.zeroValue163
 g1 := by kernel_rfl
 g3 := by kernel_rfl
 g4 := by kernel_rfl }
def Tryz.lays187_ren : Go.Shelf.Ren := ⟨fun | 187 => 116 | 255 => 141 | n => n, fun | 37 => 29 | 5 => 5 | 3 => 3 | n => n, fun | n => n⟩
theorem Tryz.lays187 : Go.Proofs.Lays.n187 Tryz.prog Tryz.lays187_ren := {
 mixed := by kernel_rfl
 f187 := Tryz.func116.trans (congrArg some (by kernel_rfl))
 f255 := Tryz.func141.trans (congrArg some (by kernel_rfl))
 t3 := Tryz.underlying3
 a3 := Tryz.isAgg3
 z3 := Tryz.sizeOf3
 v3 := Tryz.zeroValue3
 t5 := Tryz.underlying5
 a5 := Tryz.isAgg5
 z5 := Tryz.sizeOf5
 v5 := Tryz.zeroValue5
 t37 := Tryz.underlying29
 a37 := Tryz.isAgg29
 z37 := Tryz.sizeOf29
 v37 := Tryz.zeroValue29 }
/-- bytes.IndexByte: "IndexByte returns the index of the first instance of c in b, or -1 if c is not present in b.": IT RETURNS 'Lib.indexByte (the bytes of b) c'; the world is as it was. 'xs': the numbers that the slice's cells hold. (LAID: no walk: one application.) -/
theorem Tryz.bytes_IndexByte (b o n c : Nat) (xs : List Int) (cv : Int) (w : World) (hx : xs.length = n) (hc : ∀ i, i < n → w.cell? ⟨b, o + i, none⟩ = some (.int .u8 (xs.getD i 0))) :
 Calls Tryz.prog 116 #[.slice (some ⟨b, o, none⟩) n c, .int .u8 cv] w fun e w' => e = .returned (.int .i64 (Lib.indexByte (Lib.bytesOf xs) cv.toNat.toUInt8)) ∧ w' = w := Any.bytes_IndexByte Tryz.lays187 b o n c xs cv w hx hc
end Go.Proofs


section
set_option linter.unusedVariables false
namespace Go.Proofs.YtcbmjmphicfgpaaGreatDoor.Rad
open Go.RowKit Go.Proofs.YtcbmjmphicfgpaaGreatDoorW.PrintWords Go.Proofs.YtcbmjmphicfgpaaGreatDoorW.PrintLast Go.Proofs.YtcbmjmphicfgpaaGreatDoorW.PrintMore
attribute [local go_sem] max2_int min2_int max_two min_two

def idx (c : Int) : Int := Lib.indexByte (Lib.bytesOf tabI) c.toNat.toUInt8

theorem indexByte_tab (c : Int) (a : Nat) (w : World) (h : w.heap[a]? = some (.cells tabV 126 (0, 0))) :
 Calls Tryz.prog 116 #[.slice (some ⟨a, 0, none⟩) 64 64, .int .u8 c] w fun e w' => e = .returned (.int .i64 (idx c)) ∧ w' = w := by
 refine Tryz.bytes_IndexByte a 0 64 64 tabI c w tabI_length ?_
 intro i hi
 rw [Nat.zero_add, Lib.cell_of_heap h]
 exact tabV_get i hi

def fstep (j : Nat) (b n c : Int) : Option (Int × Int) :=
 if c = 61 ∧ 1 < j then some (Go.bits .or .i64 (wrap64 (b * 64)) 0, if (j : Int) - 1 < n then (j : Int) - 1 else n)
 else if idx c < 0 then none else if n < (j : Int) - 1 ∧ ¬ c = 61 then none else some (Go.bits .or .i64 (wrap64 (b * 64)) (idx c), n)
def fst (s : ByteArray) : Nat → Option (Int × Int)
 | 0 => some (0, 3)
 | j + 1 => (fst s j).bind fun p => fstep j p.1 p.2 (bt s j)
def fmask (n : Int) : Int := if n = 1 then 65535 else if n = 2 then 255 else 0
def fres (b n : Int) : List Int × Bool := if Go.bits .and .i64 b (fmask n) = 0 then (([(b / 65536) % 256, (b / 256) % 256, b % 256] : List Int).take n.toNat, true) else ([], false)
def four (s : ByteArray) : List Int × Bool := match fst s 4 with
 | none => ([], false)
 | some (b, n) => fres b n

theorem fst_succ {s : ByteArray} {j : Nat} {b n : Int} (h : fst s j = some (b, n)) : fst s (j + 1) = fstep j b n (bt s j) := by simp [fst, h]
theorem fst_none {s : ByteArray} {j : Nat} (h : fst s j = none) (d : Nat) : fst s (j + d) = none := by
 induction d with
 | zero => exact h
 | succ d ih => show (fst s (j + d)).bind _ = none; rw [ih]; rfl
theorem four_none {s : ByteArray} {j : Nat} (hj : j ≤ 4) (h : fst s j = none) : four s = ([], false) := by
 have := fst_none h (4 - j)
 rw [show j + (4 - j) = 4 from by omega] at this
 simp [four, this]
theorem four_some {s : ByteArray} {b n : Int} (h : fst s 4 = some (b, n)) : four s = fres b n := by simp [four, h]

theorem fstep_A {j : Nat} {b n c : Int} (h : c = 61) (h1 : 1 < j) (h2 : (j : Int) - 1 < n) : fstep j b n c = some (Go.bits .or .i64 (wrap64 (b * 64)) 0, (j : Int) - 1) := by unfold fstep; rw [if_pos ⟨h, h1⟩, if_pos h2]
theorem fstep_B {j : Nat} {b n c : Int} (h : c = 61) (h1 : 1 < j) (h2 : ¬ (j : Int) - 1 < n) : fstep j b n c = some (Go.bits .or .i64 (wrap64 (b * 64)) 0, n) := by unfold fstep; rw [if_pos ⟨h, h1⟩, if_neg h2]
theorem fstep_C {j : Nat} {b n c : Int} (h : ¬ c = 61) (h1 : 0 ≤ idx c) (h2 : ¬ n < (j : Int) - 1) : fstep j b n c = some (Go.bits .or .i64 (wrap64 (b * 64)) (idx c), n) := by
 unfold fstep; rw [if_neg (fun h3 => h h3.1), if_neg (by omega), if_neg (fun h3 => h2 h3.1)]
theorem fstep_N0 {j : Nat} {b n c : Int} (h : c = 61) (h1 : ¬ 1 < j) (h2 : idx 61 < 0) : fstep j b n c = none := by subst h; unfold fstep; rw [if_neg (fun h3 => h1 h3.2), if_pos h2]
theorem fstep_N1 {j : Nat} {b n c : Int} (h : ¬ c = 61) (h1 : idx c < 0) : fstep j b n c = none := by unfold fstep; rw [if_neg (fun h3 => h h3.1), if_pos h1]
theorem fstep_N2 {j : Nat} {b n c : Int} (h : ¬ c = 61) (h1 : 0 ≤ idx c) (h2 : n < (j : Int) - 1) : fstep j b n c = none := by unfold fstep; rw [if_neg (fun h3 => h h3.1), if_neg (by omega), if_pos ⟨h2, h⟩]

def FourPost (s : ByteArray) (w : World) (e : Ending) (w' : World) : Prop := ∃ v : Value, e = .returned (.tuple #[v, .bool (four s).2]) ∧ Kd.R (Kd.int .u8) 5 w' w.heap.size (fun _ => True) v (four s).1 ∧ Below w.heap.size w w'
theorem FourPost.no {s : ByteArray} {w w' : World} (h : four s = ([], false)) (hb : Below w.heap.size w w') : FourPost s w (.returned (.tuple #[.slice none 0 0, .bool false])) w' :=
 ⟨.slice none 0 0, by rw [h], by rw [h]; exact Kd.R_nil _ _ _ _ _, hb⟩

theorem own3 (W : World) (base : Nat) (hb : base ≤ W.heap.size) (x y z : Int) (n : Nat) (hn : n ≤ 3) :
 Kd.R (Kd.int .u8) 5 (W.alloc (.cells #[.int .u8 x, .int .u8 y, .int .u8 z] 5)) base (fun _ => True) (.slice (some ⟨W.heap.size, 0, none⟩) n 3) (([x, y, z] : List Int).take n) := by
 have hl : (([x, y, z] : List Int).take n).length = n := by simp; omega
 refine Kd.R_of_own (enc := Value.int .u8) ?_ (fun _ _ => trivial)
 rw [hl]
 exact ⟨by simp [encs]; omega, .inr ⟨W.heap.size, 3, _, rfl, hb, heap_alloc_new W _, hn, by decide, rfl, by simp [encs, List.map_take]⟩⟩
theorem FourPost.yes {s : ByteArray} {w W : World} {b n : Int} (h : four s = fres b n) (h0 : (Go.bits .and .i64 b (fmask n) != 0) = false) (m : Nat) (hn : n = (m : Int)) (hm : m ≤ 3) (hb : Below w.heap.size w W) :
 FourPost s w (.returned (.tuple #[.slice (some ⟨W.heap.size, 0, none⟩) m 3, .bool true])) (W.alloc (.cells #[.int .u8 ((b / 65536) % 256), .int .u8 ((b / 256) % 256), .int .u8 (b % 256)] 5)) := by
 have h1 : four s = (([(b / 65536) % 256, (b / 256) % 256, b % 256] : List Int).take n.toNat, true) := by
  rw [h, fres, if_pos (by simpa using h0)]
 have h2 : n.toNat = m := by omega
 rw [h2] at h1
 exact ⟨_, by rw [h1], by rw [h1]; exact own3 W _ hb.size _ _ _ m hm, hb.alloc hb.size _⟩
theorem fres_no {b n : Int} (h : (Go.bits .and .i64 b (fmask n) != 0) = true) : fres b n = ([], false) := by
 unfold fres; rw [if_neg (by simpa using h)]

set_option maxHeartbeats 4000000 in
set_option maxRecDepth 100000 in
theorem four_walk (s : ByteArray) (w : World) (hs : s.size = 4) :
 Calls Tryz.prog 78 #[.string s] w (FourPost s w) := by
 have Hs := Lib.hid hs
 clear hs
 go_enter Tryz.func78, Tryz.ntmps78
 go_wp2
 go_loopw [4, 5, 8] (fun b n k wr => ∃ (j : Nat) (bi ni : Int), j ≤ 4 ∧ k = .int .i64 j ∧ b = .int .i64 bi ∧ n = .int .i64 ni ∧ Hid (fst s j = some (bi, ni)) ∧ 1 ≤ ni ∧ ni ≤ 3 ∧ (2 ≤ j → (j : Int) - 1 ≤ 3) ∧ Below w.heap.size w wr) (fun _ _ k _ => 4 - (intOf k).toNat)
 case atStart => exact ⟨0, 0, 3, by omega, rfl, rfl, rfl, rfl, by omega, by omega, by omega, Below.refl _ _⟩
 case round =>
  rename_i wr
  obtain ⟨j, bi, ni, hj, rfl, rfl, rfl, hf, h1, h3, _, hb⟩ := hrel
  by_cases hlt : j < 4
  ·have hx : j < s.size := by have := Hs.out; omega
   have hd : decide ((j : Int) < 4) = true := decide_eq_true (by omega)
   have hbt : ∀ h : j < s.size, ((s[j]'h).toNat : Int) = bt s j := fun h => by have := bt_at s j; simpa using this h
   go_wp2
   go_region_with (first | (go_at_call 65; refine (signs _).mono ?_; rintro e w1 ⟨rfl, rfl⟩) | (go_at_call 116; refine (indexByte_tab _ _ _ (by exact heap_alloc_new _ _)).mono ?_; rintro e w1 ⟨rfl, rfl⟩))
   all_goals go_wp2
   all_goals first
    | (go_ret2
       refine FourPost.no (four_none (j := j + 1) (by omega) ((fst_succ hf.out).trans ?_)) ?_
       ·first | exact fstep_N0 (by assumption) (by omega) (by assumption) | exact fstep_N1 (by assumption) (by assumption) | exact fstep_N2 (by assumption) (by assumption) (by assumption)
       ·repeat (first | exact hb | apply below_alloc | apply pw_below_drewN | apply below_drew1))
    | (refine ⟨⟨j + 1, _, _, by omega, by go_num, rfl, rfl, (fst_succ hf.out).trans ?_, by omega, by omega, by omega, ?_⟩, by simp [intOf]; omega⟩
       ·first | exact fstep_A (by assumption) (by omega) (by assumption) | exact fstep_B (by assumption) (by omega) (by assumption) | exact fstep_C (by assumption) (by assumption) (by assumption) | (exfalso; simp_all)
       ·repeat (first | exact hb | apply below_alloc | apply pw_below_drewN | apply below_drew1))
  ·obtain rfl : j = 4 := by omega
   have HF := Lib.hid (four_some hf.out)
   clear hf
   have h123 : ni = 1 ∨ ni = 2 ∨ ni = 3 := by omega
   rcases h123 with rfl | rfl | rfl
   all_goals
    go_wp2
   all_goals go_ret2
   ·exact FourPost.no (HF.out.trans (fres_no ‹_›)) hb
   ·exact FourPost.yes HF.out ‹_› 1 rfl (by omega) hb
   ·exact FourPost.no (HF.out.trans (fres_no ‹_›)) hb
   ·exact FourPost.yes HF.out ‹_› 2 rfl (by omega) hb
   ·exact FourPost.no (HF.out.trans (fres_no ‹_›)) hb
   ·exact FourPost.yes HF.out ‹_› 3 rfl (by omega) hb

end Go.Proofs.YtcbmjmphicfgpaaGreatDoor.Rad
end

section
set_option linter.unusedVariables false
namespace Go.Proofs.YtcbmjmphicfgpaaGreatDoor.Rad
open Go.RowKit Go.Proofs.YtcbmjmphicfgpaaGreatDoorW.PrintWords Go.Proofs.YtcbmjmphicfgpaaGreatDoorW.PrintLast Go.Proofs.YtcbmjmphicfgpaaGreatDoorW.PrintMore
attribute [local go_sem] max2_int min2_int max_two min_two

def sg (n : Int) : Int := rd tabI n
def qd (q : Int) (n : Int) : List Int := [sg (q / 262144 % 64), sg (q / 4096 % 64), if n < 2 then 61 else sg (q / 64 % 64), if n < 3 then 61 else sg (q % 64)]
def enc : List Int → List Int
 | [] => []
 | [a] => qd (a * 65536) 1
 | [a, b] => qd (a * 65536 + b * 256) 2
 | a :: b :: c :: r => qd (a * 65536 + b * 256 + c) 3 ++ enc r
theorem enc_round (l : List Int) (h : l ≠ []) : enc l = qd (rd l 0 * 65536 + rd l 1 * 256 + rd l 2) ((l.take 3).length : Nat) ++ enc (l.drop 3) := by
 match l, h with
 | [a], _ => simp [enc, rd]
 | [a, b], _ => simp [enc, rd]
 | a :: b :: c :: r, _ => simp [enc, rd]
theorem qd_length (q n : Int) : (qd q n).length = 4 := rfl
theorem enc_length (l : List Int) : (enc l).length = (l.length + 2) / 3 * 4 := by
 match l with
 | [] => rfl
 | [a] => simp [enc, qd_length]
 | [a, b] => simp [enc, qd_length]
 | a :: b :: c :: r => have := enc_length r; simp only [enc, List.length_append, qd_length, List.length_cons, this]; omega

theorem i64_and63 (x : Int) (h : 0 ≤ x) (h1 : x < 4611686018427387904) : Go.bits .and .i64 x 63 = x % 64 := bits_mask .i64 62 (by decide) (fun n h₀ h₁ => by rw [IntKind.wrap_i64]; omega) 6 (by decide) x h h1
theorem quad_bits (x y z : Int) (hx : 0 ≤ x) (hx1 : x < 256) (hy : 0 ≤ y) (hy1 : y < 256) (hz : 0 ≤ z) (hz1 : z < 256) :
 Go.bits .or .i64 (Go.bits .or .i64 (x * 65536) (y * 256)) z = x * 65536 + y * 256 + z := by
 have hw : ∀ n : Int, 0 ≤ n → n < 2 ^ 62 → IntKind.i64.wrap n = n := fun n h₀ h₁ => by rw [IntKind.wrap_i64]; omega
 rw [bits_join .i64 62 (by decide) hw 16 (x * 65536) (y * 256) (by omega) (by omega) (by omega) (by omega) (by omega) (by omega)]
 rw [bits_join .i64 62 (by decide) hw 8 _ z (by omega) (by omega) (by omega) (by omega) (by omega) (by omega)]
theorem first3 (rest : List Int) (i : Nat) (h : i < 3) : (splice [Value.int .u8 0, Value.int .u8 0, Value.int .u8 0] 0 (nums .u8 (rest.take 3)))[i]? = some (.int .u8 (rd rest i)) := by
 match rest with
 | [] => match i, h with
  | 0, _ => rfl
  | 1, _ => rfl
  | 2, _ => rfl
 | [a] => match i, h with
  | 0, _ => rfl
  | 1, _ => rfl
  | 2, _ => rfl
 | [a, b] => match i, h with
  | 0, _ => rfl
  | 1, _ => rfl
  | 2, _ => rfl
 | a :: b :: c :: r => match i, h with
  | 0, _ => rfl
  | 1, _ => rfl
  | 2, _ => rfl

theorem at_dst (n : Tmp) {P : Program} {ops : Array Oper} {Q : Exit → Act → World → Prop} {rest : List Oper} {a : Act} {w : World} {op : Op} {ty : TypeId} {pos : String} {af : Array Edge} {g : Option (Nat × Bool)}
 (h : wpList P ops Q (⟨some n, op, ty, pos, af, g⟩ :: rest) a w) : wpList P ops Q (⟨some n, op, ty, pos, af, g⟩ :: rest) a w := h
theorem bldF_below {T e : TypeId} {B b : Nat} {bs : List Value} {w w' : World} (h : Lib.IsBuilderF T e B b bs w) (hb : Below w.heap.size w w') : Lib.IsBuilderF T e B b bs w' := by
 have hg : w.grownBy w' none := ⟨hb.os, hb.tape, hb.output, hb.size, fun k hk _ => hb.block k hk⟩
 have go : ∀ p, Lib.BuilderAtF T e B b p bs w → Lib.BuilderAtF T e B b p bs w' := by
  intro p h
  have hlt := h.lt
  obtain ⟨hB, v, hbk, hown, hne⟩ := h
  exact ⟨hB, v, (hb.block b hlt).trans hbk, hown.kept hg (by cases hv : v.ownBlock <;> simp), hne⟩
 exact h.elim (fun x => .inl (go _ x)) (fun x => .inr (go _ x))
theorem tab_kept {e : TypeId} {b : Option Nat} {w w' : World} (h : Lib.OthersKept e b w w') {k : Nat} {cs : Array Value} {T : TypeId} (hk : w.heap[k]? = some (.cells cs T (0, 0))) (hb : some k ≠ b) (hT : T ≠ e) : w'.heap[k]? = some (.cells cs T (0, 0)) :=
 h k _ hk hb (fun c fz he => by injection he with _ h2 _; exact hT h2)
theorem qd_take {acc : List Int} {Q N x : Int} (j : Nat) (h : (qd Q N)[j]? = some x) : nums .u8 (acc ++ (qd Q N).take j) ++ [.int .u8 x] = nums .u8 (acc ++ (qd Q N).take (j + 1)) := by
 rw [List.take_add_one, h, ← List.append_assoc, nums_append _ (acc ++ _)]
 rfl
theorem drop3 (rest : List Int) {N : Nat} (h : N = (rest.take 3).length) : rest.drop N = rest.drop 3 := by
 rw [h, List.length_take]
 rcases Nat.lt_or_ge rest.length 3 with h3 | h3
 ·rw [Nat.min_eq_right (by omega), List.drop_eq_nil_of_le (Nat.le_refl _), List.drop_eq_nil_of_le (by omega)]
 ·rw [Nat.min_eq_left h3]
theorem rd_range {l : List Int} (h : ∀ x ∈ l, 0 ≤ x ∧ x < 256) (i : Int) : 0 ≤ rd l i ∧ rd l i < 256 := by
 unfold rd
 rw [List.getD_eq_getElem?_getD]
 cases hx : l[i.toNat]? with
 | none => simp
 | some x => exact h x (List.mem_of_getElem? hx)

theorem qd_range (Q N : Int) : ∀ x ∈ qd Q N, 0 ≤ x ∧ x < 256 := by
 have hs : ∀ n, 0 ≤ sg n ∧ sg n < 256 := fun n => rd_range (by decide) n
 intro x hx
 simp only [qd, List.mem_cons, List.not_mem_nil, or_false] at hx
 rcases hx with rfl | rfl | rfl | rfl
 ·exact hs _
 ·exact hs _
 ·split
  ·decide
  ·exact hs _
 ·split
  ·decide
  ·exact hs _
theorem enc_range (l : List Int) : ∀ x ∈ enc l, 0 ≤ x ∧ x < 256 := by
 match l with
 | [] => simp [enc]
 | [a] => simp only [enc]; exact qd_range _ _
 | [a, b] => simp only [enc]; exact qd_range _ _
 | a :: b :: c :: r =>
  have := enc_range r
  simp only [enc, List.mem_append]
  rintro x (hx | hx)
  ·exact qd_range _ _ x hx
  ·exact this x hx
theorem nums_bytes (l : List Int) (h : ∀ x ∈ l, 0 ≤ x ∧ x < 256) : nums .u8 l = Lib.byteCells (Lib.bytesOf l) := by
 simp only [nums, Lib.byteCells, Lib.bytesOf, List.map_map]
 apply List.map_congr_left
 intro x hx
 have := h x hx
 simp only [Function.comp]
 rw [UInt8.toNat_ofNat_of_lt' (by simp [UInt8.size]; omega)]
 congr 1
 omega
theorem str_bytes (l : List Int) : (⟨(Lib.bytesOf l).toArray⟩ : ByteArray) = strOfNums l := by
 apply ByteArray.ext
 apply Array.ext'
 have := Lib.strOfNums_toList l
 rw [Lib.toList_data] at this
 rw [this]
def lenOfV : Value → Nat | .slice _ n _ => n | _ => 0
set_option maxHeartbeats 4000000 in
set_option maxRecDepth 100000 in
theorem encode_walk (A : Option Addr) (c : Nat) (l : List Int) (w : World) (hr : ReadsInt w .u8 A l.length l) (hc : l.length ≤ c) (hw : ∀ x ∈ l, 0 ≤ x ∧ x < 256) (hl : l.length ≤ 1000000000) :
 Calls Tryz.prog 35 #[.slice A l.length c] w fun e w' => e = .returned (.string (strOfNums (enc l))) ∧ Below w.heap.size w w' := by
 go_enter Tryz.func35, Tryz.ntmps35
 go_wp2_with (go_at_call 65; refine (signs _).mono ?_; rintro e w1 ⟨rfl, rfl⟩)
 obtain ⟨i0, hi, hz0, hz1, hz2⟩ := info_parts Bld.infoByte
 go_loopw [0] (fun v wr => ∃ (A' : Option Addr) (c' : Nat) (rest acc : List Int), v = .slice A' rest.length c' ∧ Hid (enc l = acc ++ enc rest) ∧ ReadsInt w .u8 A' rest.length rest ∧ rest.length ≤ c' ∧ (∀ x ∈ rest, 0 ≤ x ∧ x < 256) ∧ acc.length + 4 * rest.length ≤ 4 * l.length ∧
  Hid (Lib.IsBuilderF 59 5 w.heap.size w.heap.size (nums .u8 acc) wr) ∧ Hid (wr.heap[w.heap.size + 1]? = some (.cells tabV 126 (0, 0))) ∧ Below w.heap.size w wr)
  (fun v _ => lenOfV v)
 case atStart =>
  refine ⟨A, c, l, [], rfl, rfl, hr, hc, hw, by simp, ?_, ?_, ?_⟩
  ·exact (Lib.IsBuilderF.of (Lib.fresh_isBuilder _ _ w)).alloc _
  ·have := heap_alloc_new (w.alloc (.cells #[.pointer none, .slice none 0 0] 59)) (.cells tabV 126)
   exact (show _ = _ by simpa using this)
  ·exact ((Below.refl _ _).alloc (Nat.le_refl _) _).alloc (by simp) _
 case round =>
  obtain ⟨wo, rfl⟩ : ∃ wo : World, wo = wr := ⟨_, rfl⟩
  obtain ⟨A', c', rest, acc, rfl, he, hrr, hcc, hww, hll, hbd, htb, hb⟩ := hrel
  by_cases h0 : rest = []
  ·subst h0
   have hB := hbd.out
   have hA : enc l = acc := by have := he.out; simpa [enc] using this
   have HA := Lib.hid hA
   rw [nums_bytes acc (by rw [← hA]; exact enc_range l)] at hB
   have hB2 : Hid (Lib.IsBuilderF 59 5 w.heap.size w.heap.size (Lib.byteCells (Lib.bytesOf acc)) wo) := hB
   clear hA hB he hbd hcc hrr
   have hsz : w.heap.size ≤ wo.heap.size := hb.size
   simp only [List.length_nil]
   go_wp2_with (fail)
   refine (Tryz.Builder_String_any_k w.heap.size w.heap.size (Lib.bytesOf acc) _ hB2.out hsz).mono ?_
   rintro e w3 ⟨rfl, _, hl3, _⟩
   go_wp2
   go_ret
   exact ⟨by rw [str_bytes]; exact congrArg (fun z => Ending.returned (Value.string (strOfNums z))) HA.out.symm, hb.trans hl3⟩
  ·have hpos : 0 < rest.length := List.length_pos_iff.2 h0
   obtain ⟨N, hN⟩ : ∃ N : Nat, N = (rest.take 3).length := ⟨_, rfl⟩
   have hN1 : 1 ≤ N := by rw [hN]; simp; omega
   have hN3 : N ≤ 3 := by rw [hN]; simp; omega
   have hNr : N ≤ rest.length := by rw [hN]; simp; omega
   have hx0 : 0 ≤ rd rest 0 ∧ rd rest 0 < 256 := rd_range hww 0
   have hx1 : 0 ≤ rd rest 1 ∧ rd rest 1 < 256 := rd_range hww 1
   have hx2 : 0 ≤ rd rest 2 ∧ rd rest 2 < 256 := rd_range hww 2
   obtain ⟨hx00, hx01⟩ := hx0
   obtain ⟨hx10, hx11⟩ := hx1
   obtain ⟨hx20, hx21⟩ := hx2
   have hq := quad_bits (rd rest 0) (rd rest 1) (rd rest 2) hx00 hx01 hx10 hx11 hx20 hx21
   obtain ⟨Q, hQ⟩ : ∃ Q, rd rest 0 * 65536 + rd rest 1 * 256 + rd rest 2 = Q := ⟨_, rfl⟩
   have hQ0 : 0 ≤ Q := by omega
   have hQ1 : Q < 16777216 := by omega
   rw [hQ] at hq
   have HQ := Lib.hid hQ
   have HN := Lib.hid hN
   obtain ⟨A2, hcut, hcr, hcc2⟩ := print_cut_int (P := Tryz.prog) (k := .u8) 29 5 Tryz.underlying29 hi hz1 A' c' rest (N : Int) (by omega) (by omega) hcc
   simp only [Int.toNat_natCast] at hcut hcr hcc2
   have HR := hcr w hrr
   clear hN hQ hcr
   go_wp2_with ((with_reducible refine at_dst 15 ?_); go_must (refine wpList_copy_splice rfl (.tmp 13) (.tmp 14) 29 29 rfl 5 Tryz.underlying29 (by rw [hi]; exact congrArg some hz1) _ _ _ _ _ _ rfl rfl wo.heap.size 0 [.int .u8 0, .int .u8 0, .int .u8 0] 92 (by exact heap_alloc_new _ _) (nums .u8 (rest.take 3)) ?c1 ?c2 ?c3 ?c4 wo.heap.size wo (by exact (Below.refl _ _).alloc (Nat.le_refl _) _) (Nat.le_refl _) ?_))
   case c1 => simp [nums, Nat.min_comm]
   case c2 =>
    intro _
    obtain ⟨ad, e1, e2⟩ := hrr.2.2 hpos
    refine ⟨ad, e1, fun j v hj => ?_⟩
    have hj2 : j < 3 ∧ j < rest.length := by
     have := (List.getElem?_eq_some_iff.1 hj).1
     simp [nums] at this
     omega
    rw [nums, List.getElem?_map, List.getElem?_take, if_pos hj2.1, List.getElem?_eq_getElem hj2.2] at hj
    have h3 := e2 j hj2.2
    rw [List.getD_eq_getElem?_getD, List.getElem?_eq_getElem hj2.2] at h3
    rw [← Option.some.inj hj]
    have h4 := pw_cell_below hb h3
    have hlt := World.block_lt_of_cell? wo _ h4
    rw [World.cell?_alloc_lt _ _ _ hlt]
    exact h4
   case c3 => simp [nums]; omega
   case c4 => intro v hv; obtain ⟨x, _, rfl⟩ := List.mem_map.1 hv; rfl
   intro w2 hg2 hb2
   have d0 : w2.cell? ⟨wo.heap.size, 0, none⟩ = some (.int .u8 (rd rest 0)) := by rw [Lib.cell_of_heap hg2.out, List.getElem?_toArray]; exact first3 rest 0 (by omega)
   have d1 : w2.cell? ⟨wo.heap.size, 1, none⟩ = some (.int .u8 (rd rest 1)) := by rw [Lib.cell_of_heap hg2.out, List.getElem?_toArray]; exact first3 rest 1 (by omega)
   have d2 : w2.cell? ⟨wo.heap.size, 2, none⟩ = some (.int .u8 (rd rest 2)) := by rw [Lib.cell_of_heap hg2.out, List.getElem?_toArray]; exact first3 rest 2 (by omega)
   have hln : (nums .u8 (rest.take 3)).length = N := by rw [HN.out]; simp [nums]
   have hbd2 : Hid (Lib.IsBuilderF 59 5 w.heap.size w.heap.size (nums .u8 acc) w2) := bldF_below hbd.out hb2
   have htb2 : Hid (w2.heap[w.heap.size + 1]? = some (.cells tabV 126 (0, 0))) := (hb2.block _ (by have := (Array.getElem?_eq_some_iff.1 htb.out).1; omega)).trans htb.out
   have hb3 : Below w.heap.size w w2 := hb.trans (hb2.mono hb.size)
   clear hbd htb hg2
   rw [hln]
   clear hln
   go_wp2
   go_loopw [32] (fun kv wq => ∃ (j : Nat), j ≤ 4 ∧ kv = .int .i64 j ∧ Hid (Lib.IsBuilderF 59 5 w.heap.size w.heap.size (nums .u8 (acc ++ (qd Q N).take j)) wq) ∧ Hid (wq.heap[w.heap.size + 1]? = some (.cells tabV 126 (0, 0))) ∧ Below w.heap.size w wq)
    (fun kv _ => 4 - (intOf kv).toNat)
   case atStart => exact ⟨0, by omega, rfl, by simpa using hbd2, htb2, hb3⟩
   case round =>
    obtain ⟨j, hj, rfl, hbq, htq, hbl⟩ := hrel
    have hacc : acc.length + 4 ≤ 4000000000 := by omega
    have hsz : w.heap.size ≤ wr.heap.size := hbl.size
    have hj4 : j = 0 ∨ j = 1 ∨ j = 2 ∨ j = 3 ∨ j = 4 := by omega
    have Hrest := Lib.hid he
    rcases hj4 with rfl | rfl | rfl | rfl | rfl
    ·obtain ⟨V, hV⟩ : ∃ V, V = Q / 262144 % 64 := ⟨_, rfl⟩
     have hv := i64_and63 (Q / 262144) (by omega) (by omega)
     rw [← hV] at hv
     have hv0 : 0 ≤ V := by omega
     have hv1 : V < 64 := by omega
     have hcell : wr.cell? ⟨w.heap.size + 1, V.toNat, none⟩ = some (.int .u8 (sg V)) := by rw [Lib.cell_of_heap htq.out]; exact tabV_get _ (by omega)
     have HV : Hid ((qd Q N)[0]? = some (sg V)) := (show _ = _ by rw [hV]; simp [qd])
     clear hV
     have hN0 : decide ((N : Int) < 0) = false := decide_eq_false (by omega)
     have e0 : IntKind.i64.wrap 0 = 0 := by decide
     have e18 : IntKind.i64.wrap 18 = 18 := by decide
     go_wp2
     go_region_with (go_at_call 34; refine (Bld.writeByte_k w.heap.size w.heap.size (nums .u8 (acc ++ (qd Q N).take 0)) _ _ (by exact hbq.out) (by simp [nums]; omega) (by exact hsz)).mono ?_; rintro e w3 ⟨rfl, hb3, hl3, hk3⟩)
     go_wp2
     exact ⟨⟨1, by omega, by go_num, (.inr (by rw [← qd_take 0 HV.out]; exact hb3)), tab_kept hk3 (by exact htq.out) (by simp) (by decide), (by exact hbl.drew.trans hl3)⟩, by simp [intOf]⟩
    ·obtain ⟨V, hV⟩ : ∃ V, V = Q / 4096 % 64 := ⟨_, rfl⟩
     have hv := i64_and63 (Q / 4096) (by omega) (by omega)
     rw [← hV] at hv
     have hv0 : 0 ≤ V := by omega
     have hv1 : V < 64 := by omega
     have hcell : wr.cell? ⟨w.heap.size + 1, V.toNat, none⟩ = some (.int .u8 (sg V)) := by rw [Lib.cell_of_heap htq.out]; exact tabV_get _ (by omega)
     have HV : Hid ((qd Q N)[1]? = some (sg V)) := (show _ = _ by rw [hV]; simp [qd])
     clear hV
     have hN0 : decide ((N : Int) < 1) = false := decide_eq_false (by omega)
     have e0 : IntKind.i64.wrap 0 = 0 := by decide
     have e6 : IntKind.i64.wrap 6 = 6 := by decide
     have e18 : IntKind.i64.wrap 12 = 12 := by decide
     go_wp2
     go_region_with (go_at_call 34; refine (Bld.writeByte_k w.heap.size w.heap.size (nums .u8 (acc ++ (qd Q N).take 1)) _ _ (by exact hbq.out) (by simp [nums]; omega) (by exact hsz)).mono ?_; rintro e w3 ⟨rfl, hb3, hl3, hk3⟩)
     go_wp2
     exact ⟨⟨2, by omega, by go_num, (.inr (by rw [← qd_take 1 HV.out]; exact hb3)), tab_kept hk3 (by exact htq.out) (by simp) (by decide), (by exact hbl.drew.trans hl3)⟩, by simp [intOf]⟩
    ·by_cases hp : N < 2
     ·have HV : Hid ((qd Q N)[2]? = some 61) := (show _ = _ by simp [qd]; omega)
      have hN0 : decide ((N : Int) < 2) = true := decide_eq_true (by omega)
      go_wp2_with (go_at_call 34; refine (Bld.writeByte_k w.heap.size w.heap.size (nums .u8 (acc ++ (qd Q N).take 2)) _ _ hbq.out (by simp [nums]; omega) hsz).mono ?_; rintro e w3 ⟨rfl, hb3, hl3, hk3⟩)
      exact ⟨⟨3, by omega, by go_num, (.inr (by rw [← qd_take 2 HV.out]; exact hb3)), tab_kept hk3 htq.out (by simp) (by decide), hbl.trans hl3⟩, by simp [intOf]⟩
     ·have hp' : ¬ (N : Int) < 2 := by omega
      obtain ⟨V, hV⟩ : ∃ V, V = Q / 64 % 64 := ⟨_, rfl⟩
      have hv := i64_and63 (Q / 64) (by omega) (by omega)
      rw [← hV] at hv
      have hv0 : 0 ≤ V := by omega
      have hv1 : V < 64 := by omega
      have hcell : wr.cell? ⟨w.heap.size + 1, V.toNat, none⟩ = some (.int .u8 (sg V)) := by rw [Lib.cell_of_heap htq.out]; exact tabV_get _ (by omega)
      have HV : Hid ((qd Q N)[2]? = some (sg V)) := (show _ = _ by rw [hV]; simp [qd, hp'])
      clear hV
      have hN0 : decide ((N : Int) < 2) = false := decide_eq_false (by omega)
      have e0 : IntKind.i64.wrap 0 = 0 := by decide
      have e6 : IntKind.i64.wrap 12 = 12 := by decide
      have e18 : IntKind.i64.wrap 6 = 6 := by decide
      go_wp2
      go_region_with (go_at_call 34; refine (Bld.writeByte_k w.heap.size w.heap.size (nums .u8 (acc ++ (qd Q N).take 2)) _ _ (by exact hbq.out) (by simp [nums]; omega) (by exact hsz)).mono ?_; rintro e w3 ⟨rfl, hb3, hl3, hk3⟩)
      go_wp2
      exact ⟨⟨3, by omega, by go_num, (.inr (by rw [← qd_take 2 HV.out]; exact hb3)), tab_kept hk3 (by exact htq.out) (by simp) (by decide), (by exact hbl.drew.trans hl3)⟩, by simp [intOf]⟩
    ·by_cases hp : N < 3
     ·have HV : Hid ((qd Q N)[3]? = some 61) := (show _ = _ by simp [qd]; omega)
      have hN0 : decide ((N : Int) < 3) = true := decide_eq_true (by omega)
      go_wp2_with (go_at_call 34; refine (Bld.writeByte_k w.heap.size w.heap.size (nums .u8 (acc ++ (qd Q N).take 3)) _ _ hbq.out (by simp [nums]; omega) hsz).mono ?_; rintro e w3 ⟨rfl, hb3, hl3, hk3⟩)
      exact ⟨⟨4, by omega, by go_num, (.inr (by rw [← qd_take 3 HV.out]; exact hb3)), tab_kept hk3 htq.out (by simp) (by decide), hbl.trans hl3⟩, by simp [intOf]⟩
     ·have hp' : ¬ (N : Int) < 3 := by omega
      obtain ⟨V, hV⟩ : ∃ V, V = Q % 64 := ⟨_, rfl⟩
      have hv := i64_and63 (Q) (by omega) (by omega)
      rw [← hV] at hv
      have hv0 : 0 ≤ V := by omega
      have hv1 : V < 64 := by omega
      have hcell : wr.cell? ⟨w.heap.size + 1, V.toNat, none⟩ = some (.int .u8 (sg V)) := by rw [Lib.cell_of_heap htq.out]; exact tabV_get _ (by omega)
      have HV : Hid ((qd Q N)[3]? = some (sg V)) := (show _ = _ by rw [hV]; simp [qd, hp'])
      clear hV
      have hN0 : decide ((N : Int) < 3) = false := decide_eq_false (by omega)
      have e0 : IntKind.i64.wrap 0 = 0 := by decide
      have e6 : IntKind.i64.wrap 18 = 18 := by decide
      go_wp2
      go_region_with (go_at_call 34; refine (Bld.writeByte_k w.heap.size w.heap.size (nums .u8 (acc ++ (qd Q N).take 3)) _ _ (by exact hbq.out) (by simp [nums]; omega) (by exact hsz)).mono ?_; rintro e w3 ⟨rfl, hb3, hl3, hk3⟩)
      go_wp2
      exact ⟨⟨4, by omega, by go_num, (.inr (by rw [← qd_take 3 HV.out]; exact hb3)), tab_kept hk3 (by exact htq.out) (by simp) (by decide), (by exact hbl.drew.trans hl3)⟩, by simp [intOf]⟩
    ·have HR2 := Lib.hid (drop3 rest HN.out)
     have HE := Lib.hid (enc_round rest h0)
     go_wp2
     refine ⟨⟨A2, c' - N, rest.drop N, acc ++ qd Q N, by rw [List.length_drop], ?_, HR, by rw [List.length_drop]; omega, fun x hx => hww x (List.mem_of_mem_drop hx), by rw [List.length_append, List.length_drop, qd_length]; omega, ?_, htq, hbl⟩, by simp [lenOfV]; omega⟩
     ·show _ = _
      rw [Hrest.out.out, HE.out, HR2.out, HQ.out, ← HN.out, List.append_assoc]
     ·have := hbq.out
      rwa [List.take_of_length_le (by rw [qd_length]; omega)] at this

end Go.Proofs.YtcbmjmphicfgpaaGreatDoor.Rad
end

section
set_option linter.unusedVariables false
namespace Go.Proofs.YtcbmjmphicfgpaaGreatDoor.Bld
open Go.RowKit Go.Shelf

set_option maxHeartbeats 2000000 in
set_option maxRecDepth 100000 in
theorem writeString_k (B b : Nat) (bs : List Value) (s : ByteArray) (w : World) (h : Lib.IsBuilderF 59 5 B b bs w) (hlen : bs.length + s.size ≤ 140737488355328) (hBw : B ≤ w.heap.size) :
 Calls Tryz.prog 33 #[.pointer (some ⟨b, 0, none⟩), .string s] w fun e w' => e = .returned (.tuple #[.int .i64 s.size, .nilIface]) ∧ (Lib.BuilderAtF 59 5 B b (.pointer (some ⟨b, 0, none⟩)) (bs ++ Lib.strCells s) w' ∧ Below B w w' ∧ Lib.OthersKept 5 (some b) w w') := by
 obtain ⟨i0, hi, hz0, hz1, hz2⟩ := info_parts infoByte
 go_enter Tryz.func33, Tryz.ntmps33
 go_wp2_with (go_at_call 64; refine (copyCheck_k B b bs _ h).mono ?_)
 rintro e w1 ⟨rfl, h1, hb1, hk1⟩
 obtain ⟨hB, v, hbk, hown, hne⟩ := h1
 have c0 : w1.cell? ⟨b, 0, none⟩ = some (.pointer (some ⟨b, 0, none⟩)) := by rw [Lib.cell_of_heap hbk]; rfl
 have c1 : w1.cell? ⟨b, 1, none⟩ = some v := by rw [Lib.cell_of_heap hbk]; rfl
 go_wp2_with (at_builtin; refine Lib.wpList_append_own_stringF _ rfl _ _ 29 9 rfl B 5 i0 Tryz.underlying29 Tryz.underlying9 hi hz0 hz1 hz2 _ _ _ rfl hown s rfl ?c3 ?c4 ?c5 ?_)
 case c3 => unfold maxLen; omega
 case c4 => omega
 case c5 => have := hb1.size; omega
 intro v' w2 hown' hgrow _
 have hlt : b < w1.heap.size := by
  rcases Nat.lt_or_ge b w1.heap.size with h' | h'
  ·exact h'
  ·simp [Array.getElem?_eq_none h'] at hbk
 have hb2 : w2.heap[b]? = some (.cells #[.pointer (some ⟨b, 0, none⟩), v] 59 (0, 0)) := by
  rw [hgrow.block b hlt (fun e => hne e.symm)]
  exact hbk
 have d0 : w2.cell? ⟨b, 0, none⟩ = some (.pointer (some ⟨b, 0, none⟩)) := by rw [Lib.cell_of_heap hb2]; rfl
 have d1 : w2.cell? ⟨b, 1, none⟩ = some v := by rw [Lib.cell_of_heap hb2]; rfl
 have f1 : w2.frozen? ⟨b, 1, none⟩ = false := Lib.frozen_of_heap hb2 1
 obtain ⟨ao, n', cap, rfl⟩ : ∃ ao n' cap, v' = .slice ao n' cap := by
  rcases hown'.2 with ⟨hv, _⟩ | ⟨g, cap, cur, fz, hv, _⟩
  ·exact ⟨_, _, _, hv⟩
  ·exact ⟨_, _, _, hv⟩
 go_wp2
 go_ret2
 refine ⟨rfl, ?_, ?_, (hk1.grown hgrow (Lib.ownsRowF_kind hown)).setCell ⟨b, 1, none⟩ rfl _⟩
 ·exact Lib.BuilderAtF.put (T := 59) (e := 5) hB hb2 (bs' := bs ++ Lib.strCells s) (by simpa [Lib.strCells_length] using hown') (by decide)
 ·exact (hb1.grown hgrow (by have := hb1.size; omega) (fun k hk => (hown.lt k hk).1)).setCell (p := ⟨b, 1, none⟩) hB _
set_option maxHeartbeats 2000000 in
set_option maxRecDepth 100000 in
theorem line_walk (B b : Nat) (bs : List Value) (s : ByteArray) (w : World) (h : Lib.IsBuilderF 59 5 B b bs w) (hlen : bs.length + s.size ≤ 1000000000) (hBw : B ≤ w.heap.size) :
 Calls Tryz.prog 32 #[.string s, .pointer (some ⟨b, 0, none⟩)] w fun e w' => e = .returned (.tuple #[]) ∧ (Lib.IsBuilderF 59 5 B b (bs ++ Lib.strCells s ++ [.int .u8 10]) w' ∧ Below B w w' ∧ Lib.OthersKept 5 (some b) w w') := by
 go_enter Tryz.func32, Tryz.ntmps32
 go_wp2_with (fail)
 refine (writeString_k B b bs s w h (by omega) hBw).mono ?_
 rintro e w1 ⟨rfl, h1, hb1, hk1⟩
 go_wp2_with (fail)
 refine (writeByte_k B b _ 10 w1 (.inr h1) (by simp [Lib.strCells_length]; omega) (by have := hb1.size; omega)).mono ?_
 rintro e w2 ⟨rfl, h2, hb2, hk2⟩
 go_wp2
 go_end0
 exact ⟨rfl, .inr h2, hb1.trans hb2, hk1.trans hk2⟩
end Go.Proofs.YtcbmjmphicfgpaaGreatDoor.Bld
end

namespace Go.Proofs.YtcbmjmphicfgpaaGreatDoor.Lin
open Go Go.Lib

/-- Without one carriage return at its end. -/
def trimCR (x : List UInt8) : List UInt8 := if x.getLast? = some 13 then x.dropLast else x
def splitNL : List UInt8 → List (List UInt8)
 | [] => [[]]
 | b :: l => if b = 10 then [] :: splitNL l else match splitNL l with
  | [] => [[b]]
  | p :: ps => (b :: p) :: ps
def shut (p : List (List UInt8)) : List (List UInt8) := if p.getLast? = some [] then p.dropLast else p
def linesS (s : List UInt8) : List (List UInt8) := shut ((splitNL s).map trimCR)

theorem splitNL_ne : ∀ s, splitNL s ≠ []
 | [] => by simp [splitNL]
 | b :: l => by
  unfold splitNL
  split
  ·simp
  ·split <;> simp
theorem splitNL_none : ∀ (s : List UInt8), (∀ b, b ∈ s → b ≠ 10) → splitNL s = [s]
 | [], _ => rfl
 | b :: l, h => by
  rw [splitNL, if_neg (h b List.mem_cons_self), splitNL_none l (fun c hc => h c (List.mem_cons_of_mem _ hc))]
theorem splitNL_cut : ∀ (a u : List UInt8), (∀ b, b ∈ a → b ≠ 10) → splitNL (a ++ 10 :: u) = a :: splitNL u
 | [], u, _ => by rw [List.nil_append, splitNL, if_pos rfl]
 | b :: a, u, h => by
  rw [List.cons_append, splitNL, if_neg (h b List.mem_cons_self), splitNL_cut a u (fun c hc => h c (List.mem_cons_of_mem _ hc))]

theorem shut_cons (x : List UInt8) (p : List (List UInt8)) (h : p ≠ []) : shut (x :: p) = x :: shut p := by
 obtain ⟨q, z, rfl⟩ : ∃ q z, p = q ++ [z] := ⟨p.dropLast, p.getLast h, (List.dropLast_concat_getLast h).symm⟩
 unfold shut
 rw [← List.cons_append, List.getLast?_append, List.getLast?_append]
 simp only [List.getLast?_singleton, Option.some_or, Option.some.injEq]
 split
 ·rw [List.dropLast_concat, List.dropLast_concat]
 ·rfl
theorem lines_none (t : List UInt8) (h : ∀ b, b ∈ t → b ≠ 10) : linesS t = if trimCR t = [] then [] else [trimCR t] := by
 unfold linesS
 rw [splitNL_none t h]
 unfold shut
 simp
theorem lines_cut (a u : List UInt8) (h : ∀ b, b ∈ a → b ≠ 10) : linesS (a ++ 10 :: u) = trimCR a :: linesS u := by
 unfold linesS
 rw [splitNL_cut a u h, List.map_cons, shut_cons _ _ (by simp [splitNL_ne])]
/-- Lines with an end each, one behind the other. -/
def ended (e : List UInt8) : List (List UInt8) → List UInt8
 | [] => []
 | x :: l => x ++ e ++ ended e l
theorem lines_ended_long : ∀ (l : List (List UInt8)), (∀ x, x ∈ l → ∀ b, b ∈ x → b ≠ 10 ∧ b ≠ 13) → linesS (ended [13, 10] l) = l
 | [], _ => rfl
 | x :: l, h => by
  have hx := h x List.mem_cons_self
  have e : x ++ [13, 10] ++ ended [13, 10] l = (x ++ [13]) ++ 10 :: ended [13, 10] l := by simp
  rw [ended, e, lines_cut _ _ (fun b hb => by
   rcases List.mem_append.1 hb with hb | hb
   ·exact (hx b hb).1
   ·rw [List.mem_singleton.1 hb]; decide), lines_ended_long l (fun y hy => h y (List.mem_cons_of_mem _ hy))]
  unfold trimCR
  simp
theorem lines_ended_short : ∀ (l : List (List UInt8)), (∀ x, x ∈ l → ∀ b, b ∈ x → b ≠ 10 ∧ b ≠ 13) → linesS (ended [10] l) = l
 | [], _ => rfl
 | x :: l, h => by
  have hx := h x List.mem_cons_self
  have e : x ++ [10] ++ ended [10] l = x ++ 10 :: ended [10] l := by simp
  rw [ended, e, lines_cut _ _ (fun b hb => (hx b hb).1), lines_ended_short l (fun y hy => h y (List.mem_cons_of_mem _ hy))]
  unfold trimCR
  rw [if_neg (fun hl => (hx 13 (List.mem_of_getLast? hl)).2 rfl)]

/-- What strings.Split gives at one line end. -/
theorem splitK_nl : ∀ (s : List UInt8), splitK [10] 0 (s.count 10) s = splitNL s := by
 intro s
 induction hn : s.length using Nat.strongRecOn generalizing s with
 | ind n ih =>
  subst hn
  by_cases h : (10 : UInt8) ∈ s
  ·obtain ⟨a, u, rfl, ha⟩ : ∃ a u, s = a ++ 10 :: u ∧ ∀ b, b ∈ a → b ≠ 10 := by
    clear ih
    induction s with
    | nil => cases h
    | cons b l ihl =>
     by_cases hb : b = 10
     ·exact ⟨[], l, by rw [hb]; rfl, fun c hc => by cases hc⟩
     ·obtain ⟨a, u, e, ha⟩ := ihl (by rcases List.mem_cons.1 h with e | e; exact absurd e.symm hb; exact e)
      exact ⟨b :: a, u, by rw [e]; rfl, fun c hc => by rcases List.mem_cons.1 hc with rfl | hc; exact hb; exact ha c hc⟩
   have hc : (a ++ 10 :: u).count 10 = u.count 10 + 1 := by
    rw [List.count_append, List.count_eq_zero.2 (fun hm => ha 10 hm rfl), List.count_cons_self, Nat.zero_add]
   have hix : index (a ++ 10 :: u) [10] = (a.length : Int) := by
    clear ih hc h
    induction a with
    | nil => rw [List.nil_append, index]; simp [List.isPrefixOf]
    | cons b a iha =>
     have hb := ha b List.mem_cons_self
     rw [List.cons_append, index, iha (fun c hc => ha c (List.mem_cons_of_mem _ hc))]
     have : ([10] : List UInt8).isPrefixOf (b :: (a ++ 10 :: u)) = false := by simp [List.isPrefixOf, Ne.symm hb]
     rw [this]
     simp
   rw [hc, splitK, hix, if_neg (by simp), splitNL_cut a u ha]
   have e1 : ((a.length : Int)).toNat + 0 = a.length := by simp
   have e2 : ((a.length : Int)).toNat + ([10] : List UInt8).length = a.length + 1 := by simp
   rw [e1, e2, List.take_left, show List.drop (a.length + 1) (a ++ 10 :: u) = u by rw [← List.drop_drop, List.drop_left]; rfl]
   rw [ih u.length (by simp; omega) u rfl]
  ·rw [List.count_eq_zero.2 h, splitNL_none s (fun b hb e => h (e ▸ hb))]
   rfl

end Go.Proofs.YtcbmjmphicfgpaaGreatDoor.Lin


section
set_option linter.unusedVariables false
namespace Go.Proofs.YtcbmjmphicfgpaaGreatDoor.Spl
open Go.RowKit Go.Shelf Go.Proofs.YtcbmjmphicfgpaaGreatDoorW.PrintWords

theorem indexB_one (x : ByteArray) (c : UInt8) : Lib.indexB x ⟨#[c]⟩ = Lib.indexByte x.data.toList c := Lib.index_one _ _
theorem countB_one (x : ByteArray) (c : UInt8) : Lib.countB x ⟨#[c]⟩ = Lib.countByte x.data.toList c := Lib.count_one c _

set_option maxHeartbeats 1000000 in
set_option maxRecDepth 100000 in
theorem split_one (s : ByteArray) (c : UInt8) (w : World) (hs : s.size < 4294967281) :
 Calls Tryz.prog 25 #[.string s, .string ⟨#[c]⟩] w fun e w' =>
  e = .returned (.slice (some ⟨w.heap.size, 0, none⟩) (Lib.countB s ⟨#[c]⟩ + 1) (Lib.countB s ⟨#[c]⟩ + 1)) ∧ w' = w.alloc (.cells ((Lib.splitB ⟨#[c]⟩ 0 (Lib.countB s ⟨#[c]⟩) s).map Value.string).toArray 9) := by
 have h1 : 1 ≤ (⟨#[c]⟩ : ByteArray).size := Nat.le_refl 1
 have hle := Lib.countB_le ⟨#[c]⟩ h1 s.size s (Nat.le_refl _)
 have hlen := Lib.splitB_all ⟨#[c]⟩ h1 0 _ s rfl
 have hI : ∀ (x : ByteArray) (cs : Array Value), x.size ≤ s.size → Calls Tryz.prog 100 #[.string x, .string ⟨#[c]⟩] (w.alloc (.cells cs 9)) fun e w' => e = .returned (.int .i64 (Lib.indexB x ⟨#[c]⟩)) ∧ w' = w.alloc (.cells cs 9) := by
  intro x cs _
  rw [indexB_one]
  exact Tryz.strings_Index_one x c _
 have hC : Calls Tryz.prog 99 #[.string s, .string ⟨#[c]⟩] w fun e w' => e = .returned (.int .i64 (Lib.countB s ⟨#[c]⟩)) ∧ w' = w := by
  rw [countB_one]
  exact Tryz.strings_Count_one s c w
 have k := Any.strings_genSplit_core Tryz.lays221 (by kernel_rfl) s ⟨#[c]⟩ 0 (-1) (Lib.countB s ⟨#[c]⟩ + 1) w hs h1 (Nat.zero_le _) hI hC (by decide) (by decide) (by rw [if_pos (by decide)]; omega)
 rw [Nat.add_sub_cancel, hlen] at k
 have e2 : Lib.cellsOf (Lib.splitB ⟨#[c]⟩ 0 (Lib.countB s ⟨#[c]⟩) s) (Lib.countB s ⟨#[c]⟩ + 1) = ((Lib.splitB ⟨#[c]⟩ 0 (Lib.countB s ⟨#[c]⟩) s).map Value.string).toArray := by rw [← hlen]; exact Lib.cellsOf_full _
 rw [e2] at k
 have k2 : Calls Tryz.prog 54 #[.string s, .string ⟨#[c]⟩, .int .i64 0, .int .i64 (-1)] w fun e w' => e = .returned (.slice (some ⟨w.heap.size, 0, none⟩) (Lib.countB s ⟨#[c]⟩ + 1) (Lib.countB s ⟨#[c]⟩ + 1)) ∧ w' = w.alloc (.cells ((Lib.splitB ⟨#[c]⟩ 0 (Lib.countB s ⟨#[c]⟩) s).map Value.string).toArray 9) := k
 clear k e2 hI hC hlen hle
 go_enter Tryz.func25, Tryz.ntmps25
 go_wp2_with (fail)
 refine k2.mono ?_
 rintro e w' ⟨rfl, rfl⟩
 go_wp2
 go_ret
 exact ⟨rfl, rfl⟩

theorem split_data (s : ByteArray) : (Lib.splitB ⟨#[10]⟩ 0 (Lib.countB s ⟨#[10]⟩) s).map (·.data.toList) = Lin.splitNL s.data.toList := by
 rw [Lib.splitB_data, countB_one]
 exact Lin.splitK_nl _

theorem own_strings (l : List ByteArray) (W : World) (base : Nat) (hb : base ≤ W.heap.size) (h : l.length ≤ maxLen) (h0 : 0 < l.length) :
 Kd.R Kd.string 9 (W.alloc (.cells (l.map Value.string).toArray 9)) base (fun _ => True) (.slice (some ⟨W.heap.size, 0, none⟩) l.length l.length) l := by
 refine Kd.R_of_own (enc := Value.string) ?_ (fun _ _ => trivial)
 exact ⟨by simp [encs], .inr ⟨W.heap.size, l.length, _, rfl, hb, heap_alloc_new W _, Nat.le_refl _, h, by simp, by simp only [encs]; exact List.take_of_length_le (by simp)⟩⟩

end Go.Proofs.YtcbmjmphicfgpaaGreatDoor.Spl
end

section
set_option linter.unusedVariables false
namespace Go.Proofs.YtcbmjmphicfgpaaGreatDoor.Tal
open Go Go.Lib Lin

def splitC (c : UInt8) : List UInt8 → List (List UInt8)
 | [] => [[]]
 | b :: l => if b = c then [] :: splitC c l else match splitC c l with
  | [] => [[b]]
  | p :: ps => (b :: p) :: ps
theorem splitC_ne (c : UInt8) : ∀ s, splitC c s ≠ []
 | [] => by simp [splitC]
 | b :: l => by
  unfold splitC
  split
  ·simp
  ·split <;> simp
theorem splitC_none (c : UInt8) : ∀ (s : List UInt8), (∀ b, b ∈ s → b ≠ c) → splitC c s = [s]
 | [], _ => rfl
 | b :: l, h => by
  rw [splitC, if_neg (h b List.mem_cons_self), splitC_none c l (fun x hx => h x (List.mem_cons_of_mem _ hx))]
theorem splitC_cut (c : UInt8) : ∀ (a u : List UInt8), (∀ b, b ∈ a → b ≠ c) → splitC c (a ++ c :: u) = a :: splitC c u
 | [], u, _ => by rw [List.nil_append, splitC, if_pos rfl]
 | b :: a, u, h => by
  rw [List.cons_append, splitC, if_neg (h b List.mem_cons_self), splitC_cut c a u (fun x hx => h x (List.mem_cons_of_mem _ hx))]
theorem splitC_mem (c : UInt8) (Q : UInt8 → Prop) : ∀ (s : List UInt8), (∀ p, p ∈ splitC c s → ∀ b, b ∈ p → Q b) → ∀ b, b ∈ s → b = c ∨ Q b
 | [], _, b, hb => by cases hb
 | x :: l, h, b, hb => by
  rw [splitC] at h
  by_cases e : x = c
  ·rw [if_pos e] at h
   rcases List.mem_cons.1 hb with rfl | hb
   ·exact .inl e
   ·exact splitC_mem c Q l (fun p hp => h p (List.mem_cons_of_mem _ hp)) b hb
  ·rw [if_neg e] at h
   cases es : splitC c l with
   | nil => exact absurd es (splitC_ne c l)
   | cons p ps =>
    rw [es] at h
    simp only at h
    rcases List.mem_cons.1 hb with rfl | hb
    ·exact .inr (h _ List.mem_cons_self b List.mem_cons_self)
    ·refine splitC_mem c Q l (fun q hq y hy => ?_) b hb
     rw [es] at hq
     rcases List.mem_cons.1 hq with rfl | hq
     ·exact h _ List.mem_cons_self y (List.mem_cons_of_mem _ hy)
     ·exact h q (List.mem_cons_of_mem _ hq) y hy
/-- What strings.Split gives at one byte. -/
theorem splitK_c (c : UInt8) : ∀ (s : List UInt8), splitK [c] 0 (s.count c) s = splitC c s := by
 intro s
 induction hn : s.length using Nat.strongRecOn generalizing s with
 | ind n ih =>
  subst hn
  by_cases h : c ∈ s
  ·obtain ⟨a, u, rfl, ha⟩ : ∃ a u, s = a ++ c :: u ∧ ∀ b, b ∈ a → b ≠ c := by
    clear ih
    induction s with
    | nil => cases h
    | cons b l ihl =>
     by_cases hb : b = c
     ·exact ⟨[], l, by rw [hb]; rfl, fun c hc => by cases hc⟩
     ·obtain ⟨a, u, e, ha⟩ := ihl (by rcases List.mem_cons.1 h with e | e; exact absurd e.symm hb; exact e)
      exact ⟨b :: a, u, by rw [e]; rfl, fun x hc => by rcases List.mem_cons.1 hc with rfl | hc; exact hb; exact ha x hc⟩
   have hc : (a ++ c :: u).count c = u.count c + 1 := by
    rw [List.count_append, List.count_eq_zero.2 (fun hm => ha c hm rfl), List.count_cons_self, Nat.zero_add]
   have hix : index (a ++ c :: u) [c] = (a.length : Int) := by
    clear ih hc h
    induction a with
    | nil => rw [List.nil_append, index]; simp [List.isPrefixOf]
    | cons b a iha =>
     have hb := ha b List.mem_cons_self
     rw [List.cons_append, index, iha (fun c hc => ha c (List.mem_cons_of_mem _ hc))]
     have : ([c] : List UInt8).isPrefixOf (b :: (a ++ c :: u)) = false := by simp [List.isPrefixOf, Ne.symm hb]
     rw [this]
     simp
   rw [hc, splitK, hix, if_neg (by simp), splitC_cut c a u ha]
   have e1 : ((a.length : Int)).toNat + 0 = a.length := by simp
   have e2 : ((a.length : Int)).toNat + ([c] : List UInt8).length = a.length + 1 := by simp
   rw [e1, e2, List.take_left, show List.drop (a.length + 1) (a ++ c :: u) = u by rw [← List.drop_drop, List.drop_left]; rfl]
   rw [ih u.length (by simp; omega) u rfl]
  ·rw [List.count_eq_zero.2 h, splitC_none c s (fun b hb e => h (e ▸ hb))]
   rfl

theorem nil_or_snoc {α : Type} (l : List α) : l = [] ∨ ∃ q b, l = q ++ [b] := by
 rcases List.eq_nil_or_concat l with h | ⟨q, b, h⟩
 ·exact .inl h
 ·exact .inr ⟨q, b, by rw [h, List.concat_eq_append]⟩
/-- The bytes of names. -/
def nameC (c : UInt8) : Bool := (decide (97 ≤ c) && decide (c ≤ 122)) || (decide (48 ≤ c) && decide (c ≤ 57)) || c == 45 || c == 95 || c == 46
def nameL (l : List UInt8) : Bool := decide (0 < l.length) && decide (l.length ≤ 60) && !(l.head? == some 46) && l.all nameC
theorem nameL_mem {l : List UInt8} (h : nameL l = true) : l ≠ [] ∧ l.length ≤ 60 ∧ ∀ b, b ∈ l → nameC b = true := by
 unfold nameL at h
 simp only [Bool.and_eq_true, decide_eq_true_eq, List.all_eq_true] at h
 exact ⟨by rintro rfl; simp at h, h.1.1.2, h.2⟩
theorem nameC_no {b : UInt8} (h : nameC b = true) : b ≠ 47 ∧ b ≠ 10 ∧ b ≠ 13 ∧ b ≠ 35 := by
 refine ⟨?_, ?_, ?_, ?_⟩ <;> (rintro rfl; revert h; decide)
def P8 : List UInt8 := [114, 115, 121, 110, 99, 58, 47, 47]
def trimS (l : List UInt8) : List UInt8 := if l.getLast? = some 47 then l.dropLast else l
def uriL (s : List UInt8) : Bool := decide (s.length ≤ 200) && P8.isPrefixOf s && (splitC 47 (trimS (s.drop 8))).all nameL
def dirL (s : List UInt8) : Bool := uriL s && decide (s.getLast? = some 47)
theorem uriL_iff {s : List UInt8} : uriL s = true ↔ s.length ≤ 200 ∧ ∃ r, s = P8 ++ r ∧ ∀ p, p ∈ splitC 47 (trimS r) → nameL p = true := by
 unfold uriL
 simp only [Bool.and_eq_true, decide_eq_true_eq, List.all_eq_true, List.isPrefixOf_iff_prefix]
 constructor
 ·rintro ⟨⟨h1, r, rfl⟩, h3⟩
  exact ⟨h1, r, rfl, h3⟩
 ·rintro ⟨h1, r, rfl, h3⟩
  exact ⟨⟨h1, r, rfl⟩, h3⟩
theorem dirL_iff {s : List UInt8} : dirL s = true ↔ s.length ≤ 200 ∧ ∃ q, s = P8 ++ (q ++ [47]) ∧ ∀ p, p ∈ splitC 47 q → nameL p = true := by
 unfold dirL
 rw [Bool.and_eq_true, decide_eq_true_eq, uriL_iff]
 constructor
 ·rintro ⟨⟨h1, r, rfl, h3⟩, h4⟩
  rcases nil_or_snoc r with rfl | ⟨q, b, rfl⟩
  ·exact absurd (h3 [] (by simp [trimS, splitC])) (by decide)
  ·rw [← List.append_assoc, List.getLast?_concat] at h4
   injection h4 with h4
   subst h4
   refine ⟨h1, q, rfl, fun p hp => h3 p ?_⟩
   unfold trimS
   rw [List.getLast?_concat, if_pos rfl, List.dropLast_concat]
   exact hp
 ·rintro ⟨h1, q, rfl, h3⟩
  refine ⟨⟨h1, _, rfl, fun p hp => h3 p ?_⟩, by rw [← List.append_assoc, List.getLast?_concat]⟩
  unfold trimS at hp
  rw [List.getLast?_concat, if_pos rfl, List.dropLast_concat] at hp
  exact hp
theorem uri_mem {s : List UInt8} (h : uriL s = true) : (∀ b, b ∈ s → b ≠ 10 ∧ b ≠ 13) ∧ s ≠ [] ∧ s.head? = some 114 := by
 obtain ⟨h1, r, rfl, h3⟩ := uriL_iff.1 h
 refine ⟨fun b hb => ?_, by simp [P8], rfl⟩
 rcases List.mem_append.1 hb with hb | hb
 ·exact (show ∀ b, b ∈ P8 → b ≠ 10 ∧ b ≠ 13 by decide) b hb
 ·have hr : ∀ b, b ∈ trimS r → b = 47 ∨ nameC b = true := splitC_mem 47 _ _ (fun p hp => (nameL_mem (h3 p hp)).2.2)
  have : b = 47 ∨ nameC b = true := by
   unfold trimS at hr
   rcases nil_or_snoc r with rfl | ⟨q, z, rfl⟩
   ·cases hb
   ·rw [List.getLast?_concat] at hr
    by_cases hz : z = 47
    ·subst hz
     rw [if_pos rfl, List.dropLast_concat] at hr
     rcases List.mem_append.1 hb with hb | hb
     ·exact hr b hb
     ·exact .inl (List.mem_singleton.1 hb)
    ·rw [if_neg (fun e => hz (Option.some.inj e))] at hr
     exact hr b hb
  rcases this with rfl | h
  ·decide
  ·have := nameC_no h; exact ⟨this.2.1, this.2.2.1⟩

/-- A text's lines, parted: those ahead of the first empty one, comments left out, and those behind. -/
def partsL (ls : List (List UInt8)) : List (List UInt8) × List (List UInt8) :=
 let l := ls.dropWhile (fun x => x.head? == some 35)
 (l.takeWhile (fun x => !x.isEmpty), (l.dropWhile (fun x => !x.isEmpty)).drop 1)
theorem parts_text (us cs : List (List UInt8)) (h : ∀ x, x ∈ us → uriL x = true) (h0 : us ≠ []) : partsL (us ++ [] :: cs) = (us, cs) := by
 unfold partsL
 have e : (us ++ [] :: cs).dropWhile (fun x => x.head? == some 35) = us ++ [] :: cs := by
  cases us with
  | nil => exact absurd rfl h0
  | cons x l =>
   have := (uri_mem (h x List.mem_cons_self)).2.2
   rw [List.cons_append, List.dropWhile_cons, this]
   rfl
 have hne : ∀ x, x ∈ us → (!x.isEmpty) = true := fun x hx => by
  have := (uri_mem (h x hx)).2.1
  cases x with
  | nil => exact absurd rfl this
  | cons _ _ => rfl
 rw [e]
 simp only
 rw [List.takeWhile_append_of_pos hne, List.dropWhile_append_of_pos hne]
 simp
theorem parts_comment (c : List UInt8) (ls : List (List UInt8)) : partsL ((35 :: c) :: ls) = partsL ls := by
 unfold partsL
 simp
/-- A text in parts of 64 signs. -/
def chunksL (l : List UInt8) : List (List UInt8) := if h : l.length ≤ 64 then [l] else l.take 64 :: chunksL (l.drop 64)
termination_by l.length
decreasing_by simp; omega
theorem chunksL_short {l : List UInt8} (h : l.length ≤ 64) : chunksL l = [l] := by rw [chunksL, dif_pos h]
theorem chunksL_long {l : List UInt8} (h : 64 < l.length) : chunksL l = l.take 64 :: chunksL (l.drop 64) := by rw [chunksL, dif_neg (by omega)]
theorem chunks_flat (l : List UInt8) : (chunksL l).flatten = l := by
 induction hn : l.length using Nat.strongRecOn generalizing l with
 | ind n ih =>
  by_cases h : l.length ≤ 64
  ·rw [chunksL_short h]; simp
  ·rw [chunksL_long (by omega), List.flatten_cons, ih (l.drop 64).length (by simp; omega) (l.drop 64) rfl, List.take_append_drop]
theorem chunks_mem (l : List UInt8) : ∀ x, x ∈ chunksL l → ∀ b, b ∈ x → b ∈ l := by
 intro x hx b hb
 have : b ∈ (chunksL l).flatten := List.mem_flatten.2 ⟨x, hx, hb⟩
 rwa [chunks_flat] at this
end Go.Proofs.YtcbmjmphicfgpaaGreatDoor.Tal
end

section
namespace Go.Proofs.YtcbmjmphicfgpaaGreatDoor.PT
open Go.RowKit Go.Proofs.YtcbmjmphicfgpaaGreatDoorW.PrintWords Go.Proofs.YtcbmjmphicfgpaaGreatDoorW.PrintLast Go.Proofs.YtcbmjmphicfgpaaGreatDoorW.PrintMore
attribute [local go_sem] max2_int min2_int max_two min_two max_three min_three max_four min_four   -- for this text's walks alone
set_option linter.unusedVariables false
set_option linter.unusedSimpArgs false



def errW : Option Int → Value
 | none => .nilIface
 | some c => .iface 0 (.int .i64 c)
theorem errW_none : errW none = .nilIface := rfl
theorem errW_some (c : Int) : errW (some c) = .iface 0 (.int .i64 c) := rfl

theorem info5 : (Tryz.prog.info? 5).map (fun i => (i.zero, i.size, i.bytes)) = some (some (.int .u8 0), 1, 1) := by kernel_rfl
theorem info9 : (Tryz.prog.info? 9).map (fun i => (i.zero, i.size, i.bytes)) = some (some (.string ⟨#[]⟩), 1, 16) := by kernel_rfl
theorem info30 : (Tryz.prog.info? 30).map (fun i => (i.zero, i.size, i.bytes)) = some (some (.int .u32 0), 1, 4) := by kernel_rfl
structure S51 where
 f0 : Int
 f1 : (List Int)
 f2 : (List S51)
def z51 : S51 := ⟨(0 : Int), ([] : List Int), ([] : List S51)⟩
def F51 (d : Kd S51) : Kd S51 := Kd.iso (Kd.pair (Kd.int .i64) (Kd.pair (Kd.slice 5 (Kd.int .u8)) (Kd.slice 51 d))) (fun x : S51 => (x.f0, x.f1, x.f2))
theorem mono51 : Kd.Mono F51 := Kd.mono_iso _ (Kd.mono_pair (Kd.mono_const _) (Kd.mono_pair (Kd.mono_const _) (Kd.mono_slice 51 Kd.mono_id)))
theorem sub51 : Kd.Sub F51 [5, 51] := Kd.sub_iso _ (Kd.sub_pair (Kd.sub_const _ (by decide)) (Kd.sub_pair (Kd.sub_const _ (by decide)) (Kd.sub_slice 51 (by decide) Kd.sub_id)))
theorem sz51 : ∀ n, (Kd.upto F51 3 [5, 51] n).sz = 3 := Kd.upto_sz (fun _ => rfl)
def k51 : Kd S51 := Kd.fix F51 3 [5, 51] sz51 (Kd.upto_E sub51)
theorem k51_open {w : World} {x : S51} {cs : List Value} (h : k51.K w x cs) : ∃ A1 c1 A2 c2, cs = [.int .i64 x.f0, .slice A1 x.f1.length c1, .slice A2 x.f2.length c2] ∧ x.f1.length ≤ c1 ∧ (Kd.int .u8).C w A1 x.f1.length x.f1 ∧ x.f2.length ≤ c2 ∧ k51.C w A2 x.f2.length x.f2 := by
 obtain ⟨n, h⟩ := h
 cases n with
 | zero => exact h.elim
 | succ n =>
  obtain ⟨_, _, rfl, rfl, ⟨_, _, rfl, ⟨A1, c1, rfl, l1, g1⟩, ⟨A2, c2, rfl, l2, g2⟩⟩⟩ := h
  exact ⟨A1, c1, A2, c2, rfl, l1, g1, l2, Kd.fix_C g2⟩
theorem k51_mk (w : World) (x : S51) {A1 : Option Addr} {c1 : Nat} (l1 : x.f1.length ≤ c1) (g1 : (Kd.int .u8).C w A1 x.f1.length x.f1) {A2 : Option Addr} {c2 : Nat} (l2 : x.f2.length ≤ c2) (g2 : k51.C w A2 x.f2.length x.f2) : k51.K w x [.int .i64 x.f0, .slice A1 x.f1.length c1, .slice A2 x.f2.length c2] := by
 obtain ⟨n2, q2⟩ := Kd.fix_C_back mono51 g2
 have r2 := Kd.upto_C_le mono51 sz51 (show n2 ≤ n2 by omega) q2
 exact ⟨n2 + 1, ⟨[.int .i64 x.f0], [.slice A1 x.f1.length c1, .slice A2 x.f2.length c2], rfl, rfl, ⟨[.slice A1 x.f1.length c1], [.slice A2 x.f2.length c2], rfl, ⟨A1, c1, rfl, l1, g1⟩, ⟨A2, c2, rfl, l2, r2⟩⟩⟩⟩
theorem k51_mkM (w : World) (base : Nat) (ok : Nat → Prop) (x : S51) {v1 : Value} (g1 : (Kd.int .u8).R 5 w base ok v1 x.f1) {v2 : Value} (g2 : k51.R 51 w base ok v2 x.f2) : k51.M w base ok x [.int .i64 x.f0, v1, v2] := by
 obtain ⟨n2, q2⟩ := Kd.fix_R_back mono51 g2
 have r2 := Kd.upto_R_le mono51 sz51 (show n2 ≤ n2 by omega) q2
 exact ⟨n2 + 1, ⟨[.int .i64 x.f0], [v1, v2], rfl, rfl, ⟨[v1], [v2], rfl, ⟨v1, rfl, g1⟩, ⟨v2, rfl, r2⟩⟩⟩⟩
def rd_T51 (xs : List S51) (i : Int) : S51 := xs.getD i.toNat z51
theorem at_T51 {w : World} {A : Option Addr} {n : Nat} {xs : List S51} (h : Kd.C k51 w A n xs) (i : Int) (h0 : 0 ≤ i) (h1 : i < n) : ∃ ad A1 c1 A2 c2, A = some ad ∧ w.cell? (ad.add (i.toNat * 3)) = some (.int .i64 (rd_T51 xs i).f0) ∧ w.cell? ⟨(ad.add (i.toNat * 3)).block, (ad.add (i.toNat * 3)).off + 1, none⟩ = some (.slice A1 (rd_T51 xs i).f1.length c1) ∧ w.cell? ⟨(ad.add (i.toNat * 3)).block, (ad.add (i.toNat * 3)).off + 2, none⟩ = some (.slice A2 (rd_T51 xs i).f2.length c2) ∧ (rd_T51 xs i).f1.length ≤ c1 ∧ (Kd.int .u8).C w A1 (rd_T51 xs i).f1.length (rd_T51 xs i).f1 ∧ (rd_T51 xs i).f2.length ≤ c2 ∧ k51.C w A2 (rd_T51 xs i).f2.length (rd_T51 xs i).f2 := by
 obtain ⟨ad, c, e, _, hK, hc0⟩ := Kd.C_get h z51 i h0 h1
 have hc : ∀ j u, c[j]? = some u → w.cell? (ad.add (i.toNat * 3 + j)) = some u := hc0
 obtain ⟨A1, c1, A2, c2, rfl, l1, g1, l2, g2⟩ := k51_open hK
 exact ⟨ad, A1, c1, A2, c2, e, hc 0 _ rfl, by rw [← add_field _ _ 1 (by omega)]; exact hc 1 _ rfl, by rw [← add_field _ _ 2 (by omega)]; exact hc 2 _ rfl, l1, g1, l2, g2⟩

end Go.Proofs.YtcbmjmphicfgpaaGreatDoor.PT
end

section
namespace Go.Proofs.YtcbmjmphicfgpaaGreatDoor.PT
open Go.RowKit Go.Proofs.YtcbmjmphicfgpaaGreatDoorW.PrintWords Go.Proofs.YtcbmjmphicfgpaaGreatDoorW.PrintLast Go.Proofs.YtcbmjmphicfgpaaGreatDoorW.PrintMore
attribute [local go_sem] max2_int min2_int max_two min_two max_three min_three max_four min_four   -- for this text's walks alone
set_option linter.unusedVariables false
set_option linter.unusedSimpArgs false

mutual
def manifest_Name.j0 : Nat → ByteArray → Bool → Option (Bool)
 | 0, _, _ => none
 | k + 1, x0, x16 => if x16 = true then (some false) else (manifest_Name.l0 k x0 (x0.size : Int) 0)
def manifest_Name.l0 : Nat → ByteArray → Int → Int → Option (Bool)
 | 0, _, _, _ => none
 | k + 1, x0, x18, x19 => if x19 < x18 then (if 0 ≤ x19 then (if x19 < (x0.size : Int) then (if (bt x0 x19) ≥ 97 then (manifest_Name.j2 k x0 (bt x0 x19) x18 x19 (decide ((bt x0 x19) ≤ 122))) else (manifest_Name.j2 k x0 (bt x0 x19) x18 x19 false)) else (none)) else (none)) else (some true)
def manifest_Name.j2 : Nat → ByteArray → Int → Int → Int → Bool → Option (Bool)
 | 0, _, _, _, _, _ => none
 | k + 1, x0, x4, x18, x19, x25 => if x25 = true then (manifest_Name.l0 k x0 x18 (wrap64 (x19 + 1))) else (if x4 ≥ 48 then (manifest_Name.j3 k x0 x4 x18 x19 (decide (x4 ≤ 57))) else (manifest_Name.j3 k x0 x4 x18 x19 false))
def manifest_Name.j3 : Nat → ByteArray → Int → Int → Int → Bool → Option (Bool)
 | 0, _, _, _, _, _ => none
 | k + 1, x0, x4, x18, x19, x25 => if x25 = true then (manifest_Name.l0 k x0 x18 (wrap64 (x19 + 1))) else (if x4 = 45 then (manifest_Name.l0 k x0 x18 (wrap64 (x19 + 1))) else (if x4 = 95 then (manifest_Name.l0 k x0 x18 (wrap64 (x19 + 1))) else (if x4 = 46 then (manifest_Name.l0 k x0 x18 (wrap64 (x19 + 1))) else (some false))))
end
def manifest_Name.f (k : Nat) (a0 : ByteArray) : Option (Bool) := if a0.toList = ([] : List UInt8) then (manifest_Name.j0 k a0 true) else (if (a0.size : Int) > 60 then (manifest_Name.j0 k a0 true) else (if 0 < (a0.size : Int) then (manifest_Name.j0 k a0 ((bt a0 0) == 46)) else (none)))
set_option maxHeartbeats 8000000 in
set_option maxRecDepth 100000 in
theorem manifest_Name.calls (k : Nat) (a0 : ByteArray) (r : Bool) (w : World) (h : manifest_Name.f k a0 = some r) :
 Calls Tryz.prog 22 #[.string a0] w fun e w' => e = .returned (.bool r) ∧ Drawn0 w w' := by
 have H : (if a0.toList = ([] : List UInt8) then (manifest_Name.j0 k a0 true) else (if (a0.size : Int) > 60 then (manifest_Name.j0 k a0 true) else (if 0 < (a0.size : Int) then (manifest_Name.j0 k a0 ((bt a0 0) == 46)) else (none)))) = some r := h
 clear h
 have HC2 := Aside0.mk H
 clear H
 go_enter Tryz.func22, Tryz.ntmps22
 go_upto_region 1 with (fail)
 go_cut [16] (fun v16 wc => ∃ (kq : Nat) (x16_1 : Bool), v16 = .bool x16_1 ∧ Aside0 (manifest_Name.j0 kq a0 x16_1 = some r) ∧ Aside0 (kq ≤ k) ∧ Drawn0 w wc)
 case first =>
  have H := HC2.out
  clear HC2
  by_cases c3 : a0.toList = ([] : List UInt8)
  ·rw [if_pos c3] at H
   have c3b0 : (a0.toList == ([] : List UInt8)) = true := beq_iff_eq.mpr c3
   have c3b1 : (a0.toList != ([] : List UInt8)) = false := bne_eq_false_iff_eq.mpr c3
   clear c3
   (first | rw [c3b0] | (simp only [i64_w, i32_w]; rw [c3b0]) | skip)
   have H' := Aside0.mk H
   clear H
   go_wp2
   go_meet
   case rel => exact ⟨_, (true), (by first | rfl | (simp; done) | (simp [*]; done)), H', ⟨by first | omega | exact Nat.le_refl _⟩, by repeat (first | exact Drawn0.refl _ | apply Drawn0.step)⟩
  ·rw [if_neg c3] at H
   have c3b0 : (a0.toList == ([] : List UInt8)) = false := beq_eq_false_iff_ne.mpr c3
   have c3b1 : (a0.toList != ([] : List UInt8)) = true := bne_iff_ne.mpr c3
   (first | rw [c3b0] | (simp only [i64_w, i32_w]; rw [c3b0]) | skip)
   by_cases c4 : (a0.size : Int) > 60
   ·rw [if_pos c4] at H
    have c4b0 : decide (60 < (a0.size : Int)) = true := decide_eq_true c4
    have c4b1 : decide (60 < a0.size) = true := decide_eq_true (by omega)
    clear c4
    have H' := Aside0.mk H
    clear H
    go_wp2
    go_meet
    case rel => exact ⟨_, (true), (by first | rfl | (simp; done) | (simp [*]; done)), H', ⟨by first | omega | exact Nat.le_refl _⟩, by repeat (first | exact Drawn0.refl _ | apply Drawn0.step)⟩
   ·rw [if_neg c4] at H
    have c4b0 : decide (60 < (a0.size : Int)) = false := decide_eq_false c4
    have c4b1 : decide (60 < a0.size) = false := decide_eq_false (by omega)
    clear c4
    by_cases c5 : 0 < (a0.size : Int)
    ·rw [if_pos c5] at H
     have c5b0 : decide (0 < (a0.size : Int)) = true := decide_eq_true c5
     have c5b1 : decide (0 < a0.size) = true := decide_eq_true (by omega)
     clear c5
     have H' := Aside0.mk H
     clear H
     have p6 : 0 ≤ (0 : Int) := (by omega)
     have q6 : 0 < a0.size := (by have : (0 : Int) < (a0.size : Int) := of_decide_eq_true (by first | (with_reducible assumption) | assumption); omega)
     have hx6 : ∀ h : 0 < a0.size, ((a0[0]'h).toNat : Int) = bt a0 0 := bt_at a0 0
     clear p6
     have qi6 : (0 < (a0.size : Int)) = True := eq_true (of_decide_eq_true (by first | (with_reducible assumption) | assumption))
     replace q6 := eq_true q6
     go_wp2
     go_meet
     case rel => exact ⟨_, (((bt a0 0) == 46)), (by first | rfl | (simp; done) | (simp [*]; done)), H', ⟨by first | omega | exact Nat.le_refl _⟩, by repeat (first | exact Drawn0.refl _ | apply Drawn0.step)⟩
    ·rw [if_neg c5] at H
     exact absurd H (by simp)
 case rest =>
  clear HC2
  try clear c2
  try clear p2
  try clear c3
  try clear c3b0
  try clear c3b1
  try clear c4
  try clear c4b0
  try clear c4b1
  try clear c5
  try clear c5b0
  try clear c5b1
  try clear p6
  try clear q6
  try clear hx6
  try clear qi6
  try clear p6
  try clear q6
  obtain ⟨kq, x16_1, rfl, HA, HJ1, ⟨mc1, rfl⟩⟩ := hcut
  cases kq with
  | zero => exact absurd HA.out (by simp [manifest_Name.j0])
  | succ kj1 =>
   have H := HA.out
   clear HA
   simp only [manifest_Name.j0] at H
   by_cases c7 : x16_1 = true
   ·subst c7
    have H1 : (some false) = some r := by rw [if_pos rfl] at H; exact H
    clear H
    have H := H1
    clear H1
    obtain rfl := Option.some.inj H
    go_wp2
    go_ret
    exact ⟨by first | rfl | (simp; done) | (simp [*]; done), by repeat (first | exact Drawn0.refl _ | apply Drawn0.step)⟩
   ·replace c7 := Bool.eq_false_iff.mpr c7
    subst c7
    have H1 : (manifest_Name.l0 kj1 a0 (a0.size : Int) 0) = some r := by rw [if_neg (show ¬ (false = true) by decide)] at H; exact H
    clear H
    have H := H1
    clear H1
    have H' := Aside0.mk H
    clear H
    go_wp2
    go_loopg [19] kj1 (fun kq v19 w' => ∃ (x19_2 : Int), v19 = .int .i64 x19_2 ∧ Aside0 (manifest_Name.l0 kq a0 (a0.size : Int) x19_2 = some r) ∧ Aside0 (kq ≤ kj1) ∧ Drawn0 w w')
    case atStart => exact ⟨(0), (by first | rfl | (simp; done) | (simp [*]; done)), H', ⟨Nat.le_refl _⟩, by repeat (first | exact Drawn0.refl _ | apply Drawn0.step)⟩
    case round =>
     clear H'
     try clear c1
     try clear c2
     try clear p2
     try clear c3
     try clear c3b0
     try clear c3b1
     try clear c4
     try clear c4b0
     try clear c4b1
     try clear c5
     try clear c5b0
     try clear c5b1
     try clear p6
     try clear q6
     try clear hx6
     try clear qi6
     try clear c7
     try clear p2
     try clear p6
     try clear q6
     obtain ⟨x19_2, rfl, HA, HK2, ⟨m2, rfl⟩⟩ := hrel
     cases gk with
     | zero => exact absurd HA.out (by simp [manifest_Name.l0])
     | succ k2 =>
      have H := HA.out
      clear HA
      simp only [manifest_Name.l0] at H
      by_cases c8 : x19_2 < (a0.size : Int)
      ·rw [if_pos c8] at H
       have c8b0 : decide (x19_2 < (a0.size : Int)) = true := decide_eq_true c8
       clear c8
       by_cases c9 : 0 ≤ x19_2
       ·rw [if_pos c9] at H
        have c9b0 : decide (0 ≤ x19_2) = true := decide_eq_true c9
        clear c9
        by_cases c10 : x19_2 < (a0.size : Int)
        ·rw [if_pos c10] at H
         have c10b0 : decide (x19_2 < (a0.size : Int)) = true := decide_eq_true c10
         clear c10
         have HC12 := Aside0.mk H
         clear H
         have p11 : 0 ≤ (x19_2 : Int) := of_decide_eq_true (by first | (with_reducible assumption) | assumption)
         have q11 : x19_2 < (a0.size : Int) := of_decide_eq_true (by first | (with_reducible assumption) | assumption)
         have hx11 := bt_at a0 x19_2
         replace p11 := eq_true p11
         replace q11 := eq_true q11
         go_upto_region 8 with (fail)
         go_cut [25] (fun v25 wc => ∃ (kq : Nat) (x25_11 : Bool), v25 = .bool x25_11 ∧ Aside0 (manifest_Name.j2 kq a0 (bt a0 x19_2) (a0.size : Int) x19_2 x25_11 = some r) ∧ Aside0 (kq ≤ k2) ∧ Drawn0 w wc)
         case first =>
          have H := HC12.out
          clear HC12
          by_cases c13 : (bt a0 x19_2) ≥ 97
          ·rw [if_pos c13] at H
           have c13b0 : decide (97 ≤ (bt a0 x19_2)) = true := decide_eq_true c13
           clear c13
           (first | rw [c13b0] | (simp only [i64_w, i32_w]; rw [c13b0]) | skip)
           have H' := Aside0.mk H
           clear H
           go_wp2
           go_meet
           case rel => exact ⟨_, (decide ((bt a0 x19_2) ≤ 122)), (by first | rfl | (simp; done) | (simp [*]; done)), H', ⟨by have := HJ1.out; have := HK2.out; first | omega | exact Nat.le_refl _⟩, by repeat (first | exact Drawn0.refl _ | apply Drawn0.step)⟩
          ·rw [if_neg c13] at H
           have c13b0 : decide (97 ≤ (bt a0 x19_2)) = false := decide_eq_false c13
           clear c13
           (first | rw [c13b0] | (simp only [i64_w, i32_w]; rw [c13b0]) | skip)
           have H' := Aside0.mk H
           clear H
           go_wp2
           go_meet
           case rel => exact ⟨_, (false), (by first | rfl | (simp; done) | (simp [*]; done)), H', ⟨by have := HJ1.out; have := HK2.out; first | omega | exact Nat.le_refl _⟩, by repeat (first | exact Drawn0.refl _ | apply Drawn0.step)⟩
         case rest =>
          clear HC12
          try clear c1
          try clear p1
          try clear q1
          try clear hx1
          try clear c2
          try clear p2
          try clear c3
          try clear c3b0
          try clear c3b1
          try clear c4
          try clear c4b0
          try clear c4b1
          try clear c5
          try clear c5b0
          try clear c5b1
          try clear p6
          try clear q6
          try clear hx6
          try clear qi6
          try clear c7
          try clear c8
          try clear c8b0
          try clear c9
          try clear c9b0
          try clear c10
          try clear c10b0
          try clear p11
          try clear q11
          try clear hx11
          try clear c13
          try clear c13b0
          try clear p11
          try clear p2
          try clear p6
          try clear q11
          try clear q6
          obtain ⟨kq, x25_11, rfl, HA, HJ11, ⟨mc11, rfl⟩⟩ := hcut
          cases kq with
          | zero => exact absurd HA.out (by simp [manifest_Name.j2])
          | succ kj11 =>
           have H := HA.out
           clear HA
           simp only [manifest_Name.j2] at H
           by_cases c14 : x25_11 = true
           ·subst c14
            have H1 : (manifest_Name.l0 kj11 a0 (a0.size : Int) (wrap64 (x19_2 + 1))) = some r := by rw [if_pos rfl] at H; exact H
            clear H
            have H := H1
            clear H1
            have H' := Aside0.mk H
            clear H
            go_wp2
            go_roundg kj11
            case measure => have := HJ1.out; have := HK2.out; have := HJ11.out; omega
            case rel => exact ⟨(wrap64 (x19_2 + 1)), (by first | rfl | (simp; done) | (simp [*]; done)), H', ⟨by have := HJ1.out; have := HK2.out; have := HJ11.out; omega⟩, by repeat (first | exact Drawn0.refl _ | apply Drawn0.step)⟩
           ·replace c14 := Bool.eq_false_iff.mpr c14
            subst c14
            have H1 : (if (bt a0 x19_2) ≥ 48 then (manifest_Name.j3 kj11 a0 (bt a0 x19_2) (a0.size : Int) x19_2 (decide ((bt a0 x19_2) ≤ 57))) else (manifest_Name.j3 kj11 a0 (bt a0 x19_2) (a0.size : Int) x19_2 false)) = some r := by rw [if_neg (show ¬ (false = true) by decide)] at H; exact H
            clear H
            have H := H1
            clear H1
            have HC15 := Aside0.mk H
            clear H
            go_upto_region 9 with (fail)
            go_cut [25] (fun v25 wc => ∃ (kq : Nat) (x25_14 : Bool), v25 = .bool x25_14 ∧ Aside0 (manifest_Name.j3 kq a0 (bt a0 x19_2) (a0.size : Int) x19_2 x25_14 = some r) ∧ Aside0 (kq ≤ kj11) ∧ Drawn0 w wc)
            case first =>
             have H := HC15.out
             clear HC15
             by_cases c16 : (bt a0 x19_2) ≥ 48
             ·rw [if_pos c16] at H
              have c16b0 : decide (48 ≤ (bt a0 x19_2)) = true := decide_eq_true c16
              clear c16
              (first | rw [c16b0] | (simp only [i64_w, i32_w]; rw [c16b0]) | skip)
              have H' := Aside0.mk H
              clear H
              go_wp2
              go_meet
              case rel => exact ⟨_, (decide ((bt a0 x19_2) ≤ 57)), (by first | rfl | (simp; done) | (simp [*]; done)), H', ⟨by have := HJ1.out; have := HK2.out; have := HJ11.out; first | omega | exact Nat.le_refl _⟩, by repeat (first | exact Drawn0.refl _ | apply Drawn0.step)⟩
             ·rw [if_neg c16] at H
              have c16b0 : decide (48 ≤ (bt a0 x19_2)) = false := decide_eq_false c16
              clear c16
              (first | rw [c16b0] | (simp only [i64_w, i32_w]; rw [c16b0]) | skip)
              have H' := Aside0.mk H
              clear H
              go_wp2
              go_meet
              case rel => exact ⟨_, (false), (by first | rfl | (simp; done) | (simp [*]; done)), H', ⟨by have := HJ1.out; have := HK2.out; have := HJ11.out; first | omega | exact Nat.le_refl _⟩, by repeat (first | exact Drawn0.refl _ | apply Drawn0.step)⟩
            case rest =>
             clear HC15
             try clear c1
             try clear p1
             try clear q1
             try clear hx1
             try clear c2
             try clear p2
             try clear c3
             try clear c3b0
             try clear c3b1
             try clear c4
             try clear c4b0
             try clear c4b1
             try clear c5
             try clear c5b0
             try clear c5b1
             try clear p6
             try clear q6
             try clear hx6
             try clear qi6
             try clear c7
             try clear c8
             try clear c8b0
             try clear c9
             try clear c9b0
             try clear c10
             try clear c10b0
             try clear c11
             try clear p11
             try clear q11
             try clear hx11
             try clear c13
             try clear c13b0
             try clear c14
             try clear c16
             try clear c16b0
             try clear p1
             try clear p11
             try clear p2
             try clear p6
             try clear q1
             try clear q11
             try clear q6
             obtain ⟨kq, x25_14, rfl, HA, HJ14, ⟨mc14, rfl⟩⟩ := hcut
             cases kq with
             | zero => exact absurd HA.out (by simp [manifest_Name.j3])
             | succ kj14 =>
              have H := HA.out
              clear HA
              simp only [manifest_Name.j3] at H
              by_cases c17 : x25_14 = true
              ·subst c17
               have H1 : (manifest_Name.l0 kj14 a0 (a0.size : Int) (wrap64 (x19_2 + 1))) = some r := by rw [if_pos rfl] at H; exact H
               clear H
               have H := H1
               clear H1
               have H' := Aside0.mk H
               clear H
               go_wp2
               go_roundg kj14
               case measure => have := HJ1.out; have := HK2.out; have := HJ11.out; have := HJ14.out; omega
               case rel => exact ⟨(wrap64 (x19_2 + 1)), (by first | rfl | (simp; done) | (simp [*]; done)), H', ⟨by have := HJ1.out; have := HK2.out; have := HJ11.out; have := HJ14.out; omega⟩, by repeat (first | exact Drawn0.refl _ | apply Drawn0.step)⟩
              ·replace c17 := Bool.eq_false_iff.mpr c17
               subst c17
               have H1 : (if (bt a0 x19_2) = 45 then (manifest_Name.l0 kj14 a0 (a0.size : Int) (wrap64 (x19_2 + 1))) else (if (bt a0 x19_2) = 95 then (manifest_Name.l0 kj14 a0 (a0.size : Int) (wrap64 (x19_2 + 1))) else (if (bt a0 x19_2) = 46 then (manifest_Name.l0 kj14 a0 (a0.size : Int) (wrap64 (x19_2 + 1))) else (some false)))) = some r := by rw [if_neg (show ¬ (false = true) by decide)] at H; exact H
               clear H
               have H := H1
               clear H1
               by_cases c18 : (bt a0 x19_2) = 45
               ·rw [if_pos c18] at H
                have c18b0 : ((bt a0 x19_2) == 45) = true := beq_iff_eq.mpr c18
                have c18b1 : ((bt a0 x19_2) != 45) = false := bne_eq_false_iff_eq.mpr c18
                clear c18
                have H' := Aside0.mk H
                clear H
                go_wp2
                go_roundg kj14
                case measure => have := HJ1.out; have := HK2.out; have := HJ11.out; have := HJ14.out; omega
                case rel => exact ⟨(wrap64 (x19_2 + 1)), (by first | rfl | (simp; done) | (simp [*]; done)), H', ⟨by have := HJ1.out; have := HK2.out; have := HJ11.out; have := HJ14.out; omega⟩, by repeat (first | exact Drawn0.refl _ | apply Drawn0.step)⟩
               ·rw [if_neg c18] at H
                have c18b0 : ((bt a0 x19_2) == 45) = false := beq_eq_false_iff_ne.mpr c18
                have c18b1 : ((bt a0 x19_2) != 45) = true := bne_iff_ne.mpr c18
                by_cases c19 : (bt a0 x19_2) = 95
                ·rw [if_pos c19] at H
                 have c19b0 : ((bt a0 x19_2) == 95) = true := beq_iff_eq.mpr c19
                 have c19b1 : ((bt a0 x19_2) != 95) = false := bne_eq_false_iff_eq.mpr c19
                 clear c19
                 have H' := Aside0.mk H
                 clear H
                 go_wp2
                 go_roundg kj14
                 case measure => have := HJ1.out; have := HK2.out; have := HJ11.out; have := HJ14.out; omega
                 case rel => exact ⟨(wrap64 (x19_2 + 1)), (by first | rfl | (simp; done) | (simp [*]; done)), H', ⟨by have := HJ1.out; have := HK2.out; have := HJ11.out; have := HJ14.out; omega⟩, by repeat (first | exact Drawn0.refl _ | apply Drawn0.step)⟩
                ·rw [if_neg c19] at H
                 have c19b0 : ((bt a0 x19_2) == 95) = false := beq_eq_false_iff_ne.mpr c19
                 have c19b1 : ((bt a0 x19_2) != 95) = true := bne_iff_ne.mpr c19
                 by_cases c20 : (bt a0 x19_2) = 46
                 ·rw [if_pos c20] at H
                  have c20b0 : ((bt a0 x19_2) == 46) = true := beq_iff_eq.mpr c20
                  have c20b1 : ((bt a0 x19_2) != 46) = false := bne_eq_false_iff_eq.mpr c20
                  clear c20
                  have H' := Aside0.mk H
                  clear H
                  go_wp2
                  go_roundg kj14
                  case measure => have := HJ1.out; have := HK2.out; have := HJ11.out; have := HJ14.out; omega
                  case rel => exact ⟨(wrap64 (x19_2 + 1)), (by first | rfl | (simp; done) | (simp [*]; done)), H', ⟨by have := HJ1.out; have := HK2.out; have := HJ11.out; have := HJ14.out; omega⟩, by repeat (first | exact Drawn0.refl _ | apply Drawn0.step)⟩
                 ·rw [if_neg c20] at H
                  have c20b0 : ((bt a0 x19_2) == 46) = false := beq_eq_false_iff_ne.mpr c20
                  have c20b1 : ((bt a0 x19_2) != 46) = true := bne_iff_ne.mpr c20
                  obtain rfl := Option.some.inj H
                  go_wp2
                  go_ret
                  exact ⟨by first | rfl | (simp; done) | (simp [*]; done), by repeat (first | exact Drawn0.refl _ | apply Drawn0.step)⟩
        ·rw [if_neg c10] at H
         exact absurd H (by simp)
       ·rw [if_neg c9] at H
        exact absurd H (by simp)
      ·rw [if_neg c8] at H
       have c8b0 : decide (x19_2 < (a0.size : Int)) = false := decide_eq_false c8
       clear c8
       obtain rfl := Option.some.inj H
       go_wp2
       go_ret
       exact ⟨by first | rfl | (simp; done) | (simp [*]; done), by repeat (first | exact Drawn0.refl _ | apply Drawn0.step)⟩

end Go.Proofs.YtcbmjmphicfgpaaGreatDoor.PT
end

section
namespace Go.Proofs.YtcbmjmphicfgpaaGreatDoor.PT
open Go.RowKit Go.Proofs.YtcbmjmphicfgpaaGreatDoorW.PrintWords Go.Proofs.YtcbmjmphicfgpaaGreatDoorW.PrintLast Go.Proofs.YtcbmjmphicfgpaaGreatDoorW.PrintMore
attribute [local go_sem] max2_int min2_int max_two min_two max_three min_three max_four min_four   -- for this text's walks alone
set_option linter.unusedVariables false
set_option linter.unusedSimpArgs false

end Go.Proofs.YtcbmjmphicfgpaaGreatDoor.PT
end

section
set_option linter.unusedVariables false
set_option linter.unusedSimpArgs false
namespace Go.Proofs.YtcbmjmphicfgpaaGreatDoor.Tal
open Go.RowKit Go.Proofs.YtcbmjmphicfgpaaGreatDoorW.PrintWords Go.Proofs.YtcbmjmphicfgpaaGreatDoorW.PrintLast Go.Proofs.YtcbmjmphicfgpaaGreatDoorW.PrintMore Go.Proofs.YtcbmjmphicfgpaaGreatDoor.PT

def nameB (s : ByteArray) : Bool := nameL s.data.toList
theorem wsucc (k : Nat) (h : k ≤ 1000000000000) : wrap64 ((k : Int) + 1) = ((k + 1 : Nat) : Int) := by unfold wrap64; omega
theorem size_len (s : ByteArray) : s.data.toList.length = s.size := rfl
theorem bt_list (s : ByteArray) (i : Nat) (h : i < s.size) : bt s (i : Int) = ((s.data.toList[i]'(by rw [size_len]; exact h)).toNat : Int) := by
 have := bt_at s (i : Int) (by simpa using h)
 rw [← this]
 simp [ByteArray.getElem_eq_getElem_data]
theorem toList_data (s : ByteArray) : s.toList = s.data.toList := ByteArray.toList_eq s
theorem extract_data (s : ByteArray) (a b : Nat) : (s.extract a b).data.toList = (s.data.toList.drop a).take (b - a) := by
 simp [ByteArray.data_extract, List.extract]
theorem nameC_iff (b : UInt8) : nameC b = true ↔ (97 ≤ (b.toNat : Int) ∧ (b.toNat : Int) ≤ 122) ∨ (48 ≤ (b.toNat : Int) ∧ (b.toNat : Int) ≤ 57) ∨ (b.toNat : Int) = 45 ∨ (b.toNat : Int) = 95 ∨ (b.toNat : Int) = 46 := by
 unfold nameC
 simp only [Bool.or_eq_true, Bool.and_eq_true, decide_eq_true_eq, beq_iff_eq, UInt8.le_iff_toNat_le, ← UInt8.toNat_inj]
 simp only [show (97 : UInt8).toNat = 97 from rfl, show (122 : UInt8).toNat = 122 from rfl, show (48 : UInt8).toNat = 48 from rfl, show (57 : UInt8).toNat = 57 from rfl, show (45 : UInt8).toNat = 45 from rfl, show (95 : UInt8).toNat = 95 from rfl, show (46 : UInt8).toNat = 46 from rfl]
 omega
theorem name_l0 (s : ByteArray) (hs : s.size ≤ 1000000000) : ∀ (n i k : Nat), i + n = s.size → 3 * n < k → manifest_Name.l0 k s (s.size : Int) (i : Int) = some ((s.data.toList.drop i).all nameC)
 | 0, i, k, h, hk => by
  obtain ⟨k, rfl⟩ : ∃ m, k = m + 1 := ⟨k - 1, by omega⟩
  rw [manifest_Name.l0, if_neg (by omega), List.drop_eq_nil_of_le (by rw [size_len]; omega)]
  rfl
 | n + 1, i, k, h, hk => by
  obtain ⟨k, rfl⟩ : ∃ m, k = m + 3 := ⟨k - 3, by omega⟩
  have ih := fun k' (hk' : 3 * n < k') => name_l0 s hs n (i + 1) k' (by omega) hk'
  have hb := bt_list s i (by omega)
  have hd : s.data.toList.drop i = s.data.toList[i]'(by rw [size_len]; omega) :: s.data.toList.drop (i + 1) := List.drop_eq_getElem_cons _
  rw [hd, List.all_cons]
  generalize (s.data.toList[i]'(by rw [size_len]; omega)) = b at hb ⊢
  generalize (s.data.toList.drop (i + 1)).all nameC = R at ih ⊢
  have hc := nameC_iff b
  rw [manifest_Name.l0, if_pos (by omega), if_pos (by omega), if_pos (by omega), hb]
  generalize hx : (b.toNat : Int) = x at hc ⊢
  clear hb hx hd
  have hj3 : ∀ t, (t = true ↔ 48 ≤ x ∧ x ≤ 57) → ¬ (97 ≤ x ∧ x ≤ 122) → manifest_Name.j3 (k + 1) s x (s.size : Int) (i : Int) t = some (nameC b && R) := by
   intro t ht h1
   rw [manifest_Name.j3, wsucc i (by omega), ih k (by omega)]
   by_cases c1 : t = true
   ·rw [if_pos c1, hc.2 (.inr (.inl (ht.1 c1)))]; rfl
   ·rw [if_neg c1]
    by_cases c2 : x = 45
    ·rw [if_pos c2, hc.2 (by omega)]; rfl
    ·rw [if_neg c2]
     by_cases c3 : x = 95
     ·rw [if_pos c3, hc.2 (by omega)]; rfl
     ·rw [if_neg c3]
      by_cases c4 : x = 46
      ·rw [if_pos c4, hc.2 (by omega)]; rfl
      ·rw [if_neg c4, show nameC b = false from by
        cases e : nameC b with
        | false => rfl
        | true =>
         have := hc.1 e
         exact absurd (ht.2 (by omega)) c1]
       rfl
  have hj2 : ∀ t, (t = true ↔ 97 ≤ x ∧ x ≤ 122) → manifest_Name.j2 (k + 2) s x (s.size : Int) (i : Int) t = some (nameC b && R) := by
   intro t ht
   rw [manifest_Name.j2, wsucc i (by omega), ih (k + 1) (by omega)]
   by_cases c1 : t = true
   ·rw [if_pos c1, hc.2 (.inl (ht.1 c1))]; rfl
   ·rw [if_neg c1]
    by_cases c2 : x ≥ 48
    ·rw [if_pos c2]
     exact hj3 _ (by rw [decide_eq_true_eq]; omega) (fun q => c1 (ht.2 q))
    ·rw [if_neg c2]
     exact hj3 _ (by simp; omega) (fun q => c1 (ht.2 q))
  by_cases c1 : x ≥ 97
  ·rw [if_pos c1]
   exact hj2 _ (by rw [decide_eq_true_eq]; omega)
  ·rw [if_neg c1]
   exact hj2 _ (by simp; omega)
theorem name_f (s : ByteArray) : ∃ k, manifest_Name.f k s = some (nameB s) := by
 refine ⟨3 * s.size + 5, ?_⟩
 unfold manifest_Name.f nameB nameL
 rw [toList_data]
 have hl := size_len s
 by_cases h0 : s.data.toList = []
 ·rw [if_pos h0, h0, manifest_Name.j0, if_pos rfl]; rfl
 ·rw [if_neg h0]
  have hpos : 0 < s.size := by rw [← hl]; exact List.length_pos_iff.2 h0
  by_cases h1 : (s.size : Int) > 60
  ·rw [if_pos h1, manifest_Name.j0, if_pos rfl, hl, decide_eq_false (show ¬ s.size ≤ 60 by omega)]
   simp
  ·rw [if_neg h1, if_pos (by omega), manifest_Name.j0, hl, decide_eq_true hpos, decide_eq_true (show s.size ≤ 60 by omega)]
   have hb := bt_list s 0 hpos
   have hh : s.data.toList.head? = some (s.data.toList[0]'(by omega)) := by rw [List.head?_eq_getElem?, List.getElem?_eq_getElem (by omega)]
   rw [hh]
   have hb' : bt s 0 = _ := hb
   rw [hb']
   have hl0 := name_l0 s (by omega) s.size 0 (3 * s.size + 4) (by omega) (by omega)
   rw [List.drop_zero] at hl0
   rw [show ((0 : Nat) : Int) = 0 from rfl] at hl0
   rw [hl0]
   generalize (s.data.toList[0]'(by omega)) = b
   have e : ((b.toNat : Int) == 46) = (some b == some (46 : UInt8)) := by
    rw [Bool.eq_iff_iff, beq_iff_eq, beq_iff_eq, Option.some.injEq, ← UInt8.toNat_inj, show (46 : UInt8).toNat = 46 from rfl]
    omega
   rw [e]
   cases (some b == some (46 : UInt8)) <;> simp
end Go.Proofs.YtcbmjmphicfgpaaGreatDoor.Tal
end

section
set_option linter.unusedVariables false
set_option linter.unusedSimpArgs false
namespace Go.Proofs.YtcbmjmphicfgpaaGreatDoor.Tal
open Go.RowKit Go.Shelf Go.Proofs.YtcbmjmphicfgpaaGreatDoorW.PrintWords Go.Proofs.YtcbmjmphicfgpaaGreatDoorW.PrintLast Go.Proofs.YtcbmjmphicfgpaaGreatDoorW.PrintMore Go.Proofs.YtcbmjmphicfgpaaGreatDoor.PT

theorem flip {P : Program} {f : FuncId} {args : Array Value} {w : World} {E : Ending} (h : Calls P f args w fun e w' => e = E ∧ w' = w) : Calls P f args w fun e w' => e = E ∧ w = w' := h.mono fun _ _ ⟨a, b⟩ => ⟨a, b.symm⟩
def uriB (s : ByteArray) : Bool := uriL s.data.toList
def piecesC (c : UInt8) (s : ByteArray) : List ByteArray := Lib.splitB ⟨#[c]⟩ 0 (Lib.countB s ⟨#[c]⟩) s
theorem pieces_data (c : UInt8) (s : ByteArray) : (piecesC c s).map (·.data.toList) = splitC c s.data.toList := by
 unfold piecesC
 rw [Lib.splitB_data, Spl.countB_one]
 exact splitK_c c _
theorem piecesC_length (c : UInt8) (s : ByteArray) : (piecesC c s).length = Lib.countB s ⟨#[c]⟩ + 1 := Lib.splitB_all ⟨#[c]⟩ (show 1 ≤ (⟨#[c]⟩ : ByteArray).size from Nat.le_refl 1) 0 _ s rfl
theorem piecesC_le (c : UInt8) (s : ByteArray) : (piecesC c s).length ≤ s.size + 1 := by
 rw [piecesC_length]
 have := Lib.countB_le ⟨#[c]⟩ (show 1 ≤ (⟨#[c]⟩ : ByteArray).size from Nat.le_refl 1) s.size s (Nat.le_refl _)
 omega
def restB (s : ByteArray) : ByteArray := ⟨(Lib.trimPrefix s.data.toList (⟨#[114, 115, 121, 110, 99, 58, 47, 47]⟩ : ByteArray).data.toList).toArray⟩
def trimB (x : ByteArray) : ByteArray := ⟨(Lib.trimSuffix x.data.toList (⟨#[47]⟩ : ByteArray).data.toList).toArray⟩
theorem trim_data (x : ByteArray) : (trimB x).data.toList = trimS x.data.toList := by
 show Lib.trimSuffix x.data.toList [47] = _
 generalize x.data.toList = l
 unfold Lib.trimSuffix trimS Lib.hasSuffix
 rcases nil_or_snoc l with rfl | ⟨q, b, rfl⟩
 ·rfl
 ·by_cases h : b = 47
  ·subst h
   simp
  ·simp [h]
   exact fun e => h e.symm
theorem rest_data (x : ByteArray) (h : Lib.hasPrefix x.data.toList P8 = true) : (restB x).data.toList = x.data.toList.drop 8 := by
 show Lib.trimPrefix x.data.toList P8 = _
 unfold Lib.trimPrefix
 rw [h]
 rfl
theorem uriB_no1 {s : ByteArray} (h : Lib.hasPrefix s.data.toList P8 = false) : uriB s = false := by
 unfold uriB uriL
 have : P8.isPrefixOf s.data.toList = false := h
 rw [this]
 simp
theorem uriB_no2 {s : ByteArray} (h : 200 < s.size) : uriB s = false := by
 unfold uriB uriL
 rw [decide_eq_false (by rw [size_len]; omega)]
 rfl
theorem uriB_parts {s : ByteArray} (h : Lib.hasPrefix s.data.toList P8 = true) (h2 : s.size ≤ 200) : uriB s = (piecesC 47 (trimB (restB s))).all nameB := by
 unfold uriB uriL
 have : P8.isPrefixOf s.data.toList = true := h
 rw [this, decide_eq_true (show s.data.toList.length ≤ 200 by rw [size_len]; omega), ← rest_data s h, ← trim_data, ← pieces_data, List.all_map]
 rfl
theorem trimB_size (x : ByteArray) : (trimB x).size ≤ x.size := by
 have e : (trimB x).size = (trimS x.data.toList).length := by rw [← trim_data, size_len]
 rw [e, ← size_len x]
 unfold trimS
 split
 ·simp
 ·omega

set_option maxHeartbeats 4000000 in
set_option maxRecDepth 100000 in
theorem uri_walk (s : ByteArray) (w : World) (hs : s.size ≤ 9223372036854775807) :
 Calls Tryz.prog 10 #[.string s] w fun e w' => e = .returned (.bool (uriB s)) ∧ Below w.heap.size w w' := by
 have hcp := flip (Tryz.strings_CutPrefix s ⟨#[114, 115, 121, 110, 99, 58, 47, 47]⟩ w)
 rw [show (⟨(Lib.trimPrefix s.data.toList (⟨#[114, 115, 121, 110, 99, 58, 47, 47]⟩ : ByteArray).data.toList).toArray⟩ : ByteArray) = restB s from rfl, show Lib.hasPrefix s.data.toList (⟨#[114, 115, 121, 110, 99, 58, 47, 47]⟩ : ByteArray).data.toList = Lib.hasPrefix s.data.toList P8 from rfl] at hcp
 obtain ⟨ok, hok⟩ : ∃ ok, Lib.hasPrefix s.data.toList P8 = ok := ⟨_, rfl⟩
 rw [hok] at hcp
 by_cases hgo : ok = true ∧ s.size ≤ 200
 ·obtain ⟨rfl, h200⟩ := hgo
  have hrs : (restB s).size ≤ 200 := by
   have : (restB s).data.toList.length ≤ 200 := by rw [rest_data s hok, List.length_drop, size_len]; omega
   rwa [size_len] at this
  have hts := flip (Tryz.strings_TrimSuffix (restB s) ⟨#[47]⟩ w (by omega))
  rw [show (⟨(Lib.trimSuffix (restB s).data.toList (⟨#[47]⟩ : ByteArray).data.toList).toArray⟩ : ByteArray) = trimB (restB s) from rfl] at hts
  have htz := trimB_size (restB s)
  have hpl := piecesC_length 47 (trimB (restB s))
  have hpe := piecesC_le 47 (trimB (restB s))
  have hsp : Calls Tryz.prog 25 #[.string (trimB (restB s)), .string ⟨#[47]⟩] w fun e w' => e = .returned (.slice (some ⟨w.heap.size, 0, none⟩) (piecesC 47 (trimB (restB s))).length (piecesC 47 (trimB (restB s))).length) ∧ w' = w.alloc (.cells ((piecesC 47 (trimB (restB s))).map Value.string).toArray 9) := by
   rw [hpl]
   exact Spl.split_one _ 47 w (by omega)
  have hu := uriB_parts hok h200
  generalize uriB s = res at hu ⊢
  generalize piecesC 47 (trimB (restB s)) = p at hpl hpe hsp hu
  generalize trimB (restB s) = y at hts hsp
  generalize restB s = x at hcp hts
  have hp0 : 0 < p.length := by omega
  have hp1 : p.length ≤ 1000 := by omega
  have HU := Lib.hid hu
  have hd : decide ((200 : Int) < (s.size : Int)) = false := decide_eq_false (by omega)
  have hd' := eq_false (show ¬ (200 : Int) < (s.size : Int) by omega)
  clear hu hpl hpe hok htz hrs
  go_enter Tryz.func10, Tryz.ntmps10
  go_wp2_with (fail)
  refine hcp.mono ?_
  rintro e w1 ⟨rfl, rfl⟩
  go_wp2_with (fail)
  refine hts.mono ?_
  rintro e w1 ⟨rfl, rfl⟩
  go_wp2_with (fail)
  refine hsp.mono ?_
  rintro e w1 ⟨rfl, rfl⟩
  have ho := Spl.own_strings p w w.heap.size (Nat.le_refl _) (by unfold maxLen; omega) hp0
  have hb : Below w.heap.size w (w.alloc (.cells (p.map Value.string).toArray 9)) := (Below.refl _ _).alloc (Nat.le_refl _) _
  generalize w.alloc (.cells (p.map Value.string).toArray 9) = w1 at ho hb
  have HO := Lib.hid (Kd.R_reads' ho).2.2
  clear hsp hts hcp ho
  go_wp2
  go_loopw [23] (fun iv wr => ∃ k : Nat, k ≤ p.length ∧ iv = .int .i64 k ∧ Hid (∀ z, z ∈ p.take k → nameB z = true) ∧ Below w1.heap.size w1 wr) (fun iv _ => p.length - (intOf iv).toNat)
  case atStart => exact ⟨0, by omega, rfl, fun z hz => by simp at hz, Below.refl _ _⟩
  case round =>
   obtain ⟨k, hk, rfl, hall, hb2⟩ := hrel
   have HB := Lib.hid (hb.trans (hb2.mono hb.size))
   by_cases hlt : k < p.length
   ·obtain ⟨ad, e, q0⟩ := Kd.at_string (Kd.C_below HO.out hb2) (k : Int) (by omega) (by omega)
    injection e with e
    subst e
    have hx0 : rdOf ByteArray.empty p (k : Int) = p[k] := by simp [rdOf, List.getD_eq_getElem?_getD, List.getElem?_eq_getElem hlt]
    rw [hx0] at q0
    simp only [Int.toNat_natCast] at q0
    clear hx0
    obtain ⟨n, hn⟩ := name_f p[k]
    have hnc := manifest_Name.calls n p[k] (nameB p[k]) wr hn
    have hall2 : nameB p[k] = true → ∀ z, z ∈ p.take (k + 1) → nameB z = true := by
     intro h z hz
     rw [List.take_succ_eq_append_getElem hlt] at hz
     rcases List.mem_append.1 hz with hz | hz
     ·exact hall.out z hz
     ·rw [List.mem_singleton.1 hz]; exact h
    have hres : nameB p[k] = false → res = false := by
     intro h
     rw [HU.out, List.all_eq_false]
     exact ⟨p[k], List.getElem_mem hlt, by rw [h]; decide⟩
    generalize p[k] = z at q0 hnc hall2 hres
    have q0' : wr.cell? ⟨w.heap.size, k, none⟩ = some (.string z) := by
     have hadd : (⟨w.heap.size, 0, none⟩ : Addr).add k = ⟨w.heap.size, k, none⟩ := by unfold Addr.add; split <;> simp_all
     rw [hadd] at q0
     exact q0
    clear q0
    generalize nameB z = b at hnc hall2 hres
    have HA := Lib.hid hall2
    have HR := Lib.hid hres
    have HB2 := Lib.hid hb2
    clear hall hall2 hres hn hb2
    cases b with
    | true =>
     go_wp2_with (fail)
     refine hnc.mono ?_
     rintro e w2 ⟨rfl, hb3⟩
     go_wp2
     exact ⟨⟨k + 1, by omega, by go_num, HA.out (by first | rfl | trivial), HB2.out.trans (hb3.below.mono HB2.out.size)⟩, by simp [intOf]; omega⟩
    | false =>
     have HRF := Lib.hid (HR.out rfl)
     go_wp2_with (fail)
     refine hnc.mono ?_
     rintro e w2 ⟨rfl, hb3⟩
     go_wp2
     try rw [Exit.noGoto_ret]
     go_ret
     exact ⟨congrArg (fun b => Ending.returned (Value.bool b)) HRF.out.symm, HB.out.trans (hb3.below.mono HB.out.size)⟩
   ·obtain rfl : k = p.length := by omega
    have hres : res = true := by
     rw [HU.out, List.all_eq_true]
     intro z hz
     exact hall.out z (by rw [List.take_length]; exact hz)
    have HRF := Lib.hid hres
    clear hall hres
    go_wp2
    go_ret
    exact ⟨congrArg (fun b => Ending.returned (Value.bool b)) HRF.out.symm, HB.out⟩
 ·have hres : uriB s = false := by
   cases ok with
   | false => exact uriB_no1 hok
   | true => exact uriB_no2 (by
    rcases Nat.lt_or_ge 200 s.size with h | h
    ·exact h
    ·exact absurd ⟨rfl, h⟩ hgo)
  rw [hres]
  generalize restB s = x at hcp
  have hb := Below.refl w.heap.size w
  cases ok with
  | false =>
   clear hok hres hgo
   go_enter Tryz.func10, Tryz.ntmps10
   go_wp2_with (fail)
   refine hcp.mono ?_
   rintro e w1 ⟨rfl, rfl⟩
   go_wp2
   go_ret
   exact ⟨rfl, hb⟩
  | true =>
   have h200 : 200 < s.size := by
    rcases Nat.lt_or_ge 200 s.size with h | h
    ·exact h
    ·exact absurd ⟨rfl, h⟩ hgo
   have hd : decide ((200 : Int) < (s.size : Int)) = true := decide_eq_true (by omega)
   have hd' := eq_true (show (200 : Int) < (s.size : Int) by omega)
   clear hok hres hgo
   go_enter Tryz.func10, Tryz.ntmps10
   go_wp2_with (fail)
   refine hcp.mono ?_
   rintro e w1 ⟨rfl, rfl⟩
   go_wp2
   go_ret
   exact ⟨rfl, hb⟩
end Go.Proofs.YtcbmjmphicfgpaaGreatDoor.Tal
end

section
set_option linter.unusedVariables false
namespace Go.Proofs.YtcbmjmphicfgpaaGreatDoor.Tal
open Go.RowKit Go.Shelf Go.Proofs.YtcbmjmphicfgpaaGreatDoorW.PrintWords Go.Proofs.YtcbmjmphicfgpaaGreatDoorW.PrintLast Go.Proofs.YtcbmjmphicfgpaaGreatDoorW.PrintMore Go.Proofs.YtcbmjmphicfgpaaGreatDoor.PT

def flatB (l : List ByteArray) : ByteArray := ⟨(l.map (·.data.toList)).flatten.toArray⟩
theorem joinTail_nil (r : List (List UInt8)) : Lib.joinTail [] r = r.flatten := by
 unfold Lib.joinTail
 simp
theorem join_flat (l : List ByteArray) : Lib.join (l.map (·.data.toList)) [] = (l.map (·.data.toList)).flatten := by
 cases l with
 | nil => rfl
 | cons x r => rw [List.map_cons, Lib.join_cons, joinTail_nil, List.flatten_cons]
theorem flatB_data (l : List ByteArray) : (flatB l).data.toList = (l.map (·.data.toList)).flatten := rfl
theorem join0_walk (A : Option Addr) (c : Nat) (l : List ByteArray) (w : World) (hr : Kd.C Kd.string w A l.length l) (hc : l.length ≤ c) (hl : l.length ≤ 1000000000) (hf : (flatB l).size ≤ 1000000000) :
 Calls Tryz.prog 77 #[.slice A l.length c, .string ⟨#[]⟩] w fun e w' => e = .returned (.string (flatB l)) ∧ Below w.heap.size w w' := by
 cases l with
 | nil =>
  refine (Tryz.strings_Join_none A c ⟨#[]⟩ w).mono ?_
  rintro e w' ⟨rfl, rfl⟩
  exact ⟨rfl, Below.refl _ _⟩
 | cons x r =>
  obtain ⟨ad, e, q0⟩ := Kd.at_string hr 0 (by omega) (by simp)
  subst e
  obtain ⟨b, o, p⟩ := ad
  have hcell : ∀ (j : Nat) y, (x :: r)[j]? = some y → w.cell? ((⟨b, o, p⟩ : Addr).add j) = some (.string y) := by
   intro j y hj
   have hlt := (List.getElem?_eq_some_iff.1 hj).1
   obtain ⟨ad', e', q1⟩ := Kd.at_string hr (j : Int) (by omega) (by omega)
   injection e' with e'
   subst e'
   have : rdOf ByteArray.empty (x :: r) (j : Int) = y := by
    simp only [rdOf, Int.toNat_natCast, List.getD_eq_getElem?_getD, hj]
    rfl
   rw [this] at q1
   simpa using q1
  have hp : p = none := by
   have h0 := hcell 0 x rfl
   unfold World.cell? Addr.add at h0
   cases p with
   | none => rfl
   | some z => simp at h0; split at h0 <;> simp at h0
  subst hp
  have hcell2 : ∀ (j : Nat) y, (x :: r)[j]? = some y → w.cell? ⟨b, o + j, none⟩ = some (.string y) := fun j y hj => by
   have h := hcell j y hj
   unfold Addr.add at h
   split at h
   ·rename_i h0; subst h0; exact h
   ·exact h
  have hb : b < w.heap.size := World.block_lt_of_cell? w _ (hcell2 0 x rfl)
  have h2 := join_flat (x :: r)
  have hlen : (((x :: r).map (·.data.toList)).flatten).length ≤ 1000000000 := by rw [← flatB_data, size_len]; exact hf
  have k := Tryz.strings_Join b o c (x :: r) ⟨#[]⟩ w hcell2 hb (by omega) hc (by rw [show (⟨#[]⟩ : ByteArray).data.toList = [] from rfl, h2]; omega)
  rw [show (⟨#[]⟩ : ByteArray).data.toList = [] from rfl, h2] at k
  exact k
end Go.Proofs.YtcbmjmphicfgpaaGreatDoor.Tal
end

section
set_option linter.unusedVariables false
namespace Go.Proofs.YtcbmjmphicfgpaaGreatDoor.Rad
open Go.RowKit Go.Proofs.YtcbmjmphicfgpaaGreatDoorW.PrintWords Go.Proofs.YtcbmjmphicfgpaaGreatDoorW.PrintLast Go.Proofs.YtcbmjmphicfgpaaGreatDoorW.PrintMore
attribute [local go_sem] max2_int min2_int max_two min_two

def blank (c : Int) : Bool := c == 9 || c == 10 || c == 13 || c == 32
def bareN (s : ByteArray) : Nat → List Int
 | 0 => []
 | j + 1 => if blank (bt s j) = true then bareN s j else bareN s j ++ [bt s j]
theorem bareN_length (s : ByteArray) : ∀ j, (bareN s j).length ≤ j
 | 0 => Nat.le_refl _
 | j + 1 => by
  have := bareN_length s j
  unfold bareN
  split
  ·omega
  ·simp; omega
theorem bareN_yes {s : ByteArray} {j : Nat} (h : blank (bt s j) = true) : bareN s (j + 1) = bareN s j := if_pos h
theorem bareN_no {s : ByteArray} {j : Nat} (h : blank (bt s j) = false) : bareN s (j + 1) = bareN s j ++ [bt s j] := if_neg (by rw [h]; simp)
theorem bt_rng (s : ByteArray) (j : Nat) (h : j < s.size) : 0 ≤ bt s j ∧ bt s j < 256 := by
 have h1 : ((s[j]'h).toNat : Int) = bt s j := by have := bt_at s j; simpa using this h
 have h2 := (s[j]'h).toNat_lt
 omega
theorem bareN_range (s : ByteArray) : ∀ j, j ≤ s.size → ∀ x ∈ bareN s j, 0 ≤ x ∧ x < 256
 | 0, _, x, hx => by cases hx
 | j + 1, h, x, hx => by
  cases hb : blank (bt s j) with
  | true => rw [bareN_yes hb] at hx; exact bareN_range s j (by omega) x hx
  | false =>
   rw [bareN_no hb] at hx
   rcases List.mem_append.1 hx with hx | hx
   ·exact bareN_range s j (by omega) x hx
   ·rw [List.mem_singleton.1 hx]; exact bt_rng s j (by omega)

set_option maxHeartbeats 4000000 in
set_option maxRecDepth 100000 in
theorem bare_walk (s : ByteArray) (w : World) (hs : s.size ≤ 1000000000) :
 Calls Tryz.prog 76 #[.string s] w fun e w' => e = .returned (.string (strOfNums (bareN s s.size))) ∧ Below w.heap.size w w' := by
 go_enter Tryz.func76, Tryz.ntmps76
 go_wp2
 go_step3
 go_wp2
 go_step3
 go_wp2
 go_loopw [7] (fun kv wr => ∃ j : Nat, j ≤ s.size ∧ kv = .int .i64 j ∧ Hid (Lib.IsBuilderF 59 5 w.heap.size w.heap.size (nums .u8 (bareN s j)) wr) ∧ Below w.heap.size w wr) (fun kv _ => s.size - (intOf kv).toNat)
 case atStart =>
  exact ⟨0, by omega, rfl, Lib.IsBuilderF.of (Lib.fresh_isBuilder _ _ w), (Below.refl _ _).alloc (Nat.le_refl _) _⟩
 case round =>
  obtain ⟨j, hj, rfl, hbd, hb⟩ := hrel
  have hsz : w.heap.size ≤ wr.heap.size := hb.size
  have hbl := bareN_length s j
  by_cases hlt : j < s.size
  ·have hbt : ∀ h : j < s.size, ((s[j]'h).toNat : Int) = bt s j := fun h => by have := bt_at s j; simpa using this h
   obtain ⟨x, hx⟩ : ∃ x, x = bt s j := ⟨_, rfl⟩
   rw [← hx] at hbt
   have HX := Lib.hid hx
   clear hx
   by_cases h9 : x = 9
   ·have HB : Hid (blank (bt s j) = true) := (show _ = _ by rw [← HX.out, h9]; rfl)
    have d9 : (x == 9) = true := by simp [h9]
    clear h9
    go_wp2
    exact ⟨⟨j + 1, by omega, by go_num, by rw [bareN_yes HB.out]; exact hbd, hb⟩, by simp [intOf]; omega⟩
   ·have d9 : (x == 9) = false := by simp [h9]
    by_cases h10 : x = 10
    ·have HB : Hid (blank (bt s j) = true) := (show _ = _ by rw [← HX.out, h10]; rfl)
     have d10 : (x == 10) = true := by simp [h10]
     clear h9 h10
     go_wp2
     exact ⟨⟨j + 1, by omega, by go_num, by rw [bareN_yes HB.out]; exact hbd, hb⟩, by simp [intOf]; omega⟩
    ·have d10 : (x == 10) = false := by simp [h10]
     by_cases h13 : x = 13
     ·have HB : Hid (blank (bt s j) = true) := (show _ = _ by rw [← HX.out, h13]; rfl)
      have d13 : (x == 13) = true := by simp [h13]
      clear h9 h10 h13
      go_wp2
      exact ⟨⟨j + 1, by omega, by go_num, by rw [bareN_yes HB.out]; exact hbd, hb⟩, by simp [intOf]; omega⟩
     ·have d13 : (x == 13) = false := by simp [h13]
      by_cases h32 : x = 32
      ·have HB : Hid (blank (bt s j) = true) := (show _ = _ by rw [← HX.out, h32]; rfl)
       have d32 : (x == 32) = true := by simp [h32]
       clear h9 h10 h13 h32
       go_wp2
       exact ⟨⟨j + 1, by omega, by go_num, by rw [bareN_yes HB.out]; exact hbd, hb⟩, by simp [intOf]; omega⟩
      ·have d32 : (x == 32) = false := by simp [h32]
       have HB : Hid (blank (bt s j) = false) := (show _ = _ by rw [← HX.out]; simp [blank, h9, h10, h13, h32])
       have hap : nums .u8 (bareN s (j + 1)) = nums .u8 (bareN s j) ++ [.int .u8 x] := by rw [bareN_no HB.out, HX.out]; simp [nums]
       have HAP := Lib.hid hap
       clear h9 h10 h13 h32 hap
       go_wp2_with (fail)
       refine (Bld.writeByte_k w.heap.size w.heap.size (nums .u8 (bareN s j)) x _ hbd.out (by simp [nums]; omega) hsz).mono ?_
       rintro e w3 ⟨rfl, hb3, hl3, hk3⟩
       go_wp2
       exact ⟨⟨j + 1, by omega, by go_num, (.inr (by rw [HAP.out]; exact hb3)), hb.trans hl3⟩, by simp [intOf]; omega⟩
  ·obtain rfl : j = s.size := by omega
   have hB := hbd.out
   rw [nums_bytes _ (bareN_range s s.size (Nat.le_refl _))] at hB
   have hB2 : Hid (Lib.IsBuilderF 59 5 w.heap.size w.heap.size (Lib.byteCells (Lib.bytesOf (bareN s s.size))) wr) := hB
   clear hB hbd
   go_wp2_with (fail)
   refine (Tryz.Builder_String_any_k w.heap.size w.heap.size (Lib.bytesOf (bareN s s.size)) _ hB2.out hsz).mono ?_
   rintro e w3 ⟨rfl, _, hl3, _⟩
   go_wp2
   try rw [Exit.noGoto_ret]
   go_ret
   exact ⟨by rw [str_bytes]; rfl, hb.trans hl3⟩

end Go.Proofs.YtcbmjmphicfgpaaGreatDoor.Rad
end

section
set_option linter.unusedVariables false
namespace Go.Proofs.YtcbmjmphicfgpaaGreatDoor.Spl
open Go.RowKit Go.Shelf Go.Proofs.YtcbmjmphicfgpaaGreatDoorW.PrintWords Go.Proofs.YtcbmjmphicfgpaaGreatDoorW.PrintLast Go.Proofs.YtcbmjmphicfgpaaGreatDoorW.PrintMore

def trimB (x : ByteArray) : ByteArray := ⟨(Lib.trimSuffix x.data.toList [13]).toArray⟩
def pieces (s : ByteArray) : List ByteArray := Lib.splitB ⟨#[10]⟩ 0 (Lib.countB s ⟨#[10]⟩) s
def mix (p : List ByteArray) (k : Nat) : List ByteArray := (p.take k).map trimB ++ p.drop k
def linesR (s : ByteArray) : List ByteArray := if ((pieces s).map trimB).getLast? = some ByteArray.empty then ((pieces s).map trimB).dropLast else (pieces s).map trimB

theorem trim_data (x : ByteArray) : (trimB x).data.toList = Lin.trimCR x.data.toList := by
 show Lib.trimSuffix x.data.toList [13] = _
 generalize x.data.toList = l
 unfold Lib.trimSuffix Lin.trimCR Lib.hasSuffix
 rcases List.eq_nil_or_concat l with rfl | ⟨q, b, rfl⟩
 ·rfl
 ·by_cases h : b = 13
  ·subst h
   simp
  ·simp [h]
   exact fun e => h e.symm
theorem empty_iff (x : ByteArray) : x = ByteArray.empty ↔ x.data.toList = [] := by
 constructor
 ·rintro rfl; rfl
 ·intro h
  obtain ⟨⟨l⟩⟩ := x
  simp at h
  subst h
  rfl
theorem linesR_data (s : ByteArray) : (linesR s).map (·.data.toList) = Lin.linesS s.data.toList := by
 have hp : (pieces s).map (·.data.toList) = Lin.splitNL s.data.toList := split_data s
 have hm : ((pieces s).map trimB).map (·.data.toList) = (Lin.splitNL s.data.toList).map Lin.trimCR := by
  rw [← hp, List.map_map, List.map_map]
  exact List.map_congr_left (fun x _ => trim_data x)
 unfold linesR Lin.linesS Lin.shut
 rw [← hm]
 generalize (pieces s).map trimB = q
 have hl : (q.map (·.data.toList)).getLast? = some [] ↔ q.getLast? = some ByteArray.empty := by
  rw [List.getLast?_map]
  cases q.getLast? with
  | none => simp
  | some x => simp [empty_iff]
 by_cases h : q.getLast? = some ByteArray.empty
 ·rw [if_pos h, if_pos (hl.2 h), List.map_dropLast]
 ·rw [if_neg h, if_neg (fun e => h (hl.1 e))]
theorem mix_length (p : List ByteArray) (k : Nat) : (mix p k).length = p.length := by simp [mix]; omega
theorem mix_get {p : List ByteArray} {k : Nat} (h : k < p.length) : (mix p k).getD k ByteArray.empty = p[k] := by
 simp [mix, List.getD_eq_getElem?_getD, List.getElem?_append, h, Nat.min_eq_left (Nat.le_of_lt h)]
theorem mix_set {p : List ByteArray} {k : Nat} (h : k < p.length) : (mix p k).set k (trimB p[k]) = mix p (k + 1) := by
 unfold mix
 have e := List.drop_eq_getElem_cons h
 have e1 : k - ((p.take k).map trimB).length = 0 := by simp; omega
 rw [List.set_append_right _ _ (by simp; omega), List.take_succ_eq_append_getElem h, List.map_append, e1, e, List.append_assoc]
 rfl
theorem splitNL_len : ∀ (s : List UInt8), ∀ x ∈ Lin.splitNL s, x.length ≤ s.length
 | [], x, h => by simp [Lin.splitNL] at h; subst h; simp
 | b :: l, x, h => by
  have ih := splitNL_len l
  unfold Lin.splitNL at h
  split at h
  ·rcases List.mem_cons.1 h with rfl | h
   ·simp
   ·have := ih x h; simp; omega
  ·split at h
   ·simp at h; subst h; simp
   ·rename_i p ps he
    rcases List.mem_cons.1 h with rfl | h
    ·have := ih p (by rw [he]; simp); simp; omega
    ·have := ih x (by rw [he]; simp [h]); simp; omega
theorem piece_size (s x : ByteArray) (h : x ∈ pieces s) : x.size ≤ s.size := by
 have := splitNL_len s.data.toList x.data.toList (by rw [← split_data s]; exact List.mem_map_of_mem h)
 rwa [Lib.size_eq, Lib.size_eq]
theorem pieces_length (s : ByteArray) : (pieces s).length = Lib.countB s ⟨#[10]⟩ + 1 := Lib.splitB_all ⟨#[10]⟩ (show 1 ≤ (⟨#[10]⟩ : ByteArray).size from Nat.le_refl 1) 0 _ s rfl
theorem pieces_le (s : ByteArray) : (pieces s).length ≤ s.size + 1 := by
 rw [pieces_length]
 have := Lib.countB_le ⟨#[10]⟩ (show 1 ≤ (⟨#[10]⟩ : ByteArray).size from Nat.le_refl 1) s.size s (Nat.le_refl _)
 omega

theorem put_s {W : World} {base g n cap : Nat} {xs : List ByteArray} (h : Kd.R Kd.string 9 W base (fun _ => True) (.slice (some ⟨g, 0, none⟩) n cap) xs) (hn : n = xs.length) (i : Nat) (hi : i < n) (x : ByteArray) :
 W.cell? ⟨g, i, none⟩ = some (.string (xs.getD i ByteArray.empty)) ∧ W.frozen? ⟨g, i, none⟩ = false ∧ Kd.R Kd.string 9 (W.setCell ⟨g, i, none⟩ (.string x)) base (fun _ => True) (.slice (some ⟨g, 0, none⟩) n cap) (xs.set i x) := by
 subst hn
 have h1 := Kd.R_cell (enc := Value.string) (h1 := fun _ => rfl) ByteArray.empty h (i : Int) (by omega) (by omega)
 have h2 := Kd.R_put (enc := Value.string) (h1 := fun _ => rfl) h (i : Int) x
 simp only [Int.toNat_natCast] at h1 h2
 exact ⟨h1.1, h1.2, h2.1⟩


set_option maxHeartbeats 4000000 in
set_option maxRecDepth 100000 in
theorem lines_walk (s : ByteArray) (w : World) (hs : s.size ≤ 1000000000) :
 Calls Tryz.prog 74 #[.string s] w fun e w' => ∃ v0_ : Value, e = .returned (v0_) ∧ Kd.R Kd.string 9 w' w.heap.size (fun _ => True) v0_ (linesR s) ∧ Below w.heap.size w w' := by
 have hpl := pieces_length s
 have hpe := pieces_le s
 have hps : ∀ x ∈ pieces s, x.size ≤ 9223372036854775807 := fun x hx => by have := piece_size s x hx; omega
 have hsp : Calls Tryz.prog 25 #[.string s, .string ⟨#[10]⟩] w fun e w' => e = .returned (.slice (some ⟨w.heap.size, 0, none⟩) (pieces s).length (pieces s).length) ∧ w' = w.alloc (.cells ((pieces s).map Value.string).toArray 9) := by
  rw [hpl]
  exact split_one s 10 w (by omega)
 have hlr : linesR s = if ((pieces s).map trimB).getLast? = some ByteArray.empty then ((pieces s).map trimB).dropLast else (pieces s).map trimB := rfl
 generalize linesR s = res at hlr ⊢
 generalize pieces s = p at hpl hpe hps hsp hlr
 have hp0 : 0 < p.length := by omega
 have hp1 : p.length ≤ 1000000001 := by omega
 have HR := Lib.hid hlr
 have HPS := Lib.hid hps
 clear hlr hps hpl hpe hs
 go_enter Tryz.func74, Tryz.ntmps74
 go_wp2_with (fail)
 refine hsp.mono ?_
 rintro e w1 ⟨rfl, rfl⟩
 have ho := own_strings p w w.heap.size (Nat.le_refl _) (by unfold maxLen; omega) hp0
 have hb : Below w.heap.size w (w.alloc (.cells (p.map Value.string).toArray 9)) := (Below.refl _ _).alloc (Nat.le_refl _) _
 generalize w.alloc (.cells (p.map Value.string).toArray 9) = w1 at ho hb
 clear hsp
 go_wp2
 go_loopw [10] (fun iv wr => ∃ k : Nat, k ≤ p.length ∧ iv = .int .i64 k ∧ Hid (Kd.R Kd.string 9 wr w.heap.size (fun _ => True) (.slice (some ⟨w.heap.size, 0, none⟩) p.length p.length) (mix p k)) ∧ Below w.heap.size w wr) (fun iv _ => p.length - (intOf iv).toNat)
 case atStart => exact ⟨0, by omega, rfl, by rw [show mix p 0 = p by simp [mix]]; exact ho, hb⟩
 case round =>
  obtain ⟨k, hk, rfl, ho2, hb2⟩ := hrel
  by_cases hlt : k < p.length
  ·have h1 := put_s ho2.out (mix_length p k).symm k hlt (trimB p[k])
   rw [mix_get hlt, mix_set hlt] at h1
   obtain ⟨q1, q2, ho3⟩ := h1
   have HO3 := Lib.hid ho3
   have hx := HPS.out p[k] (List.getElem_mem hlt)
   have hts := Tryz.strings_TrimSuffix p[k] ⟨#[13]⟩ wr hx
   rw [show (⟨(Lib.trimSuffix p[k].data.toList (⟨#[13]⟩ : ByteArray).data.toList).toArray⟩ : ByteArray) = trimB p[k] from rfl] at hts
   clear ho3 ho2
   generalize p[k] = x at q1 hts HO3 hx
   generalize trimB x = y at hts HO3
   go_wp2_with (fail)
   refine hts.mono ?_
   rintro e w3 ⟨rfl, rfl⟩
   go_wp2
   exact ⟨⟨k + 1, by omega, by go_num, HO3, Below.setCell hb2 (p := ⟨w.heap.size, k, none⟩) (Nat.le_refl _) _⟩, by simp [intOf]; omega⟩
  ·obtain rfl : k = p.length := by omega
   have hm : mix p p.length = p.map trimB := by simp [mix]
   have ho3 := ho2.out
   rw [hm] at ho3
   have hl : (p.map trimB).length = p.length := by simp
   obtain ⟨q1, q2, _⟩ := put_s ho3 hl.symm (p.length - 1) (by omega) ByteArray.empty
   have HO3 := Lib.hid ho3
   have hlast : (p.map trimB).getLast? = some ((p.map trimB).getD (p.length - 1) ByteArray.empty) := by
    rw [List.getLast?_eq_getElem?, List.getD_eq_getElem?_getD, hl, List.getElem?_eq_getElem (by omega)]
    rfl
   have HR2 := Lib.hid (HR.out.trans (by rw [hlast]))
   generalize (p.map trimB).getD (p.length - 1) ByteArray.empty = x at q1 HR2 hlast
   clear hlast ho3 hm HR
   by_cases hx : x = ByteArray.empty
   ·have hE : x.toList.isEmpty = true := by rw [hx, ByteArray.toList_eq]; rfl
    have HX := Lib.hid hx
    clear hx q2
    go_wp2
    go_ret
    have hr : res = (p.map trimB).take (p.length - 1) := by rw [HR2.out, HX.out, if_pos rfl, List.dropLast_eq_take, hl]
    exact ⟨_, rfl, by rw [hr]; exact Kd.R_take HO3.out (by omega), hb2⟩
   ·have hE : x.toList.isEmpty = false := by
     rw [ByteArray.toList_eq]
     cases h : x.data.toList with
     | nil => exact absurd ((empty_iff x).2 h) hx
     | cons _ _ => rfl
    have HR3 := Lib.hid (HR2.out.trans (if_neg (fun e => hx (Option.some.inj e))))
    clear hx q2
    go_wp2
    go_ret
    exact ⟨_, rfl, by rw [HR3.out]; exact HO3.out, hb2⟩

end Go.Proofs.YtcbmjmphicfgpaaGreatDoor.Spl
end

section
set_option linter.unusedVariables false
set_option linter.unusedSimpArgs false
namespace Go.Proofs.YtcbmjmphicfgpaaGreatDoor.Tal
open Go.RowKit Go.Proofs.YtcbmjmphicfgpaaGreatDoorW.PrintWords

def hashB (x : ByteArray) : Bool := x.data.toList.head? == some 35
def fullB (x : ByteArray) : Bool := !x.data.toList.isEmpty
def restH (L : List ByteArray) : List ByteArray := L.dropWhile hashB
def urisB (L : List ByteArray) : List ByteArray := (restH L).takeWhile fullB
def behindB (L : List ByteArray) : List ByteArray := ((restH L).dropWhile fullB).drop 1
def bareB (y : ByteArray) : ByteArray := strOfNums (Rad.bareN y y.size)
def signsB (L : List ByteArray) : ByteArray := bareB (flatB (behindB L))

theorem splitNL_sum : ∀ s : List UInt8, ((Lin.splitNL s).flatten).length ≤ s.length
 | [] => by simp [Lin.splitNL]
 | b :: l => by
  have ih := splitNL_sum l
  unfold Lin.splitNL
  split
  ·rw [List.flatten_cons, List.nil_append, List.length_cons]; omega
  ·split
   ·simp
   ·rename_i p ps he
    rw [he] at ih
    rw [List.flatten_cons, List.length_append] at ih ⊢
    rw [List.length_cons, List.length_cons]
    omega
theorem trim_sum : ∀ l : List (List UInt8), ((l.map Lin.trimCR).flatten).length ≤ l.flatten.length
 | [] => by simp
 | x :: l => by
  have ih := trim_sum l
  have hx : (Lin.trimCR x).length ≤ x.length := by
   unfold Lin.trimCR
   split
   ·simp
   ·omega
  simp only [List.map_cons, List.flatten_cons, List.length_append]
  omega
theorem shut_sum (p : List (List UInt8)) : ((Lin.shut p).flatten).length ≤ p.flatten.length := by
 unfold Lin.shut
 split
 ·rename_i h
  rcases nil_or_snoc p with rfl | ⟨q, b, rfl⟩
  ·simp
  ·rw [List.dropLast_concat]; simp
 ·omega
theorem lines_sum (s : ByteArray) : (flatB (Spl.linesR s)).size ≤ s.size := by
 rw [← size_len, flatB_data, Spl.linesR_data, ← size_len s]
 unfold Lin.linesS
 have h1 := shut_sum ((Lin.splitNL s.data.toList).map Lin.trimCR)
 have h2 := trim_sum (Lin.splitNL s.data.toList)
 have h3 := splitNL_sum s.data.toList
 omega
theorem flat_app (a b : List ByteArray) : (flatB (a ++ b)).size = (flatB a).size + (flatB b).size := by
 rw [← size_len, ← size_len, ← size_len, flatB_data, flatB_data, flatB_data]
 simp
theorem flat_mem {l : List ByteArray} {x : ByteArray} (h : x ∈ l) : x.size ≤ (flatB l).size := by
 obtain ⟨a, b, rfl⟩ := List.append_of_mem h
 rw [flat_app]
 have : (flatB (x :: b)).size = x.size + (flatB b).size := by
  rw [← size_len, ← size_len, ← size_len, flatB_data, flatB_data]
  simp
 omega
theorem flat_drop (l : List ByteArray) (k : Nat) : (flatB (l.drop k)).size ≤ (flatB l).size := by
 have := flat_app (l.take k) (l.drop k)
 rw [List.take_append_drop] at this
 omega
theorem rest_drop (L : List ByteArray) : ∃ k, restH L = L.drop k := by
 unfold restH
 have h := List.takeWhile_append_dropWhile (p := hashB) (l := L)
 refine ⟨(L.takeWhile hashB).length, ?_⟩
 have h2 := List.drop_left (l₁ := L.takeWhile hashB) (l₂ := L.dropWhile hashB)
 rw [h] at h2
 exact h2.symm
theorem lines_len (s : ByteArray) : (Spl.linesR s).length ≤ s.size + 1 := by
 have := Spl.pieces_le s
 unfold Spl.linesR
 split
 ·simp; omega
 ·simp; omega
theorem uris_size (s : ByteArray) : ∀ x ∈ urisB (Spl.linesR s), x.size ≤ s.size := by
 intro x hx
 have h1 : x ∈ restH (Spl.linesR s) := (List.takeWhile_sublist _).subset hx
 have h2 : x ∈ Spl.linesR s := (List.dropWhile_sublist _).subset h1
 have := flat_mem h2
 have := lines_sum s
 omega
theorem behind_drop {L r : List ByteArray} {k : Nat} {x : ByteArray} (hr : restH L = r) (hk : r[k]? = some x) (hall : ∀ y ∈ r.take k, fullB y = true) (hx : fullB x = false) : urisB L = r.take k ∧ behindB L = r.drop (k + 1) := by
 have hlt := (List.getElem?_eq_some_iff.1 hk).1
 have hxx := (List.getElem?_eq_some_iff.1 hk).2
 have e : r = r.take k ++ x :: r.drop (k + 1) := by
  rw [← hxx, ← List.drop_eq_getElem_cons, List.take_append_drop]
 unfold urisB behindB
 rw [hr]
 constructor
 ·conv => lhs; rw [e]
  rw [List.takeWhile_append_of_pos hall, List.takeWhile_cons_of_neg (by rw [hx]; simp), List.append_nil]
 ·conv => lhs; rw [e]
  rw [List.dropWhile_append_of_pos hall, List.dropWhile_cons_of_neg (by rw [hx]; simp)]
  rfl
theorem behind_none {L r : List ByteArray} (hr : restH L = r) (hall : ∀ y ∈ r, fullB y = true) : urisB L = r ∧ behindB L = [] := by
 unfold urisB behindB
 rw [hr]
 have e1 : r.takeWhile fullB = r := by
  have := List.takeWhile_append_of_pos (l₂ := []) hall
  simpa using this
 have e2 : r.dropWhile fullB = [] := by
  have := List.dropWhile_append_of_pos (l₂ := []) hall
  simpa using this
 exact ⟨e1, by rw [e2]; rfl⟩
theorem hasPrefix_hash (x : ByteArray) : Lib.hasPrefix x.data.toList (⟨#[35]⟩ : ByteArray).data.toList = hashB x := by
 unfold hashB Lib.hasPrefix
 show [35].isPrefixOf x.data.toList = _
 cases x.data.toList with
 | nil => rfl
 | cons b l =>
  simp only [List.isPrefixOf, List.head?_cons, Bool.and_true]
  rw [Bool.eq_iff_iff, beq_iff_eq, beq_iff_eq, Option.some.injEq]
  exact eq_comm
theorem parts_data (L : List ByteArray) : (urisB L).map (·.data.toList) = (partsL (L.map (·.data.toList))).1 ∧ (behindB L).map (·.data.toList) = (partsL (L.map (·.data.toList))).2 := by
 have e : (L.map (·.data.toList)).dropWhile (fun x => x.head? == some 35) = (restH L).map (·.data.toList) := by
  unfold restH
  rw [List.dropWhile_map]
  rfl
 unfold partsL
 rw [e]
 constructor
 ·show _ = ((restH L).map (·.data.toList)).takeWhile _
  rw [List.takeWhile_map]
  rfl
 ·show _ = (((restH L).map (·.data.toList)).dropWhile _).drop 1
  rw [List.dropWhile_map, ← List.map_drop]
  rfl
end Go.Proofs.YtcbmjmphicfgpaaGreatDoor.Tal
end

section
namespace Go.Proofs.YtcbmjmphicfgpaaGreatDoor.PT
open Go.RowKit Go.Proofs.YtcbmjmphicfgpaaGreatDoorW.PrintWords Go.Proofs.YtcbmjmphicfgpaaGreatDoorW.PrintLast Go.Proofs.YtcbmjmphicfgpaaGreatDoorW.PrintMore
attribute [local go_sem] max2_int min2_int max_two min_two max_three min_three max_four min_four   -- for this text's walks alone
set_option linter.unusedVariables false
set_option linter.unusedSimpArgs false

end Go.Proofs.YtcbmjmphicfgpaaGreatDoor.PT
end

section
namespace Go.Proofs.YtcbmjmphicfgpaaGreatDoor.PT
open Go.RowKit Go.Proofs.YtcbmjmphicfgpaaGreatDoorW.PrintWords Go.Proofs.YtcbmjmphicfgpaaGreatDoorW.PrintLast Go.Proofs.YtcbmjmphicfgpaaGreatDoorW.PrintMore
attribute [local go_sem] max2_int min2_int max_two min_two max_three min_three max_four min_four   -- for this text's walks alone
set_option linter.unusedVariables false
set_option linter.unusedSimpArgs false

end Go.Proofs.YtcbmjmphicfgpaaGreatDoor.PT
end

section
namespace Go.Proofs.YtcbmjmphicfgpaaGreatDoor.PT
open Go.RowKit Go.Proofs.YtcbmjmphicfgpaaGreatDoorW.PrintWords Go.Proofs.YtcbmjmphicfgpaaGreatDoorW.PrintLast Go.Proofs.YtcbmjmphicfgpaaGreatDoorW.PrintMore
attribute [local go_sem] max2_int min2_int max_two min_two max_three min_three max_four min_four   -- for this text's walks alone
set_option linter.unusedVariables false
set_option linter.unusedSimpArgs false

def radix_four.f (a0 : ByteArray) : Option (List Int × Bool) := if a0.size = 4 then some (Rad.four a0) else none
theorem radix_four.calls (a0 : ByteArray) (r1 : List Int) (r2 : Bool) (w : World) (h : radix_four.f a0 = some (r1, r2)) :
 Calls Tryz.prog 78 #[.string a0] w fun e w' => ∃ v0_ : Value, e = .returned (.tuple #[v0_, .bool r2]) ∧ Kd.R (Kd.int .u8) 5 w' w.heap.size (fun _ => True) v0_ r1 ∧ Below w.heap.size w w' := by
 unfold radix_four.f at h
 by_cases hs : a0.size = 4
 ·rw [if_pos hs] at h
  have h2 := Option.some.inj h
  refine (Rad.four_walk a0 w hs).mono ?_
  rintro e w' ⟨v, he, hr, hb⟩
  rw [h2] at he hr
  exact ⟨v, he, hr, hb⟩
 ·rw [if_neg hs] at h
  cases h

end Go.Proofs.YtcbmjmphicfgpaaGreatDoor.PT
end

section
namespace Go.Proofs.YtcbmjmphicfgpaaGreatDoor.PT
open Go.RowKit Go.Proofs.YtcbmjmphicfgpaaGreatDoorW.PrintWords Go.Proofs.YtcbmjmphicfgpaaGreatDoorW.PrintLast Go.Proofs.YtcbmjmphicfgpaaGreatDoorW.PrintMore
attribute [local go_sem] max2_int min2_int max_two min_two max_three min_three max_four min_four   -- for this text's walks alone
set_option linter.unusedVariables false
set_option linter.unusedSimpArgs false

def radix_Decode.l0 : Nat → ByteArray → List Int → Option (List Int × Bool)
 | 0, _, _ => none
 | k + 1, x0, x4 => if x0.toList = ([] : List UInt8) then (some (x4, true)) else (if 0 ≤ 4 then (if 4 ≤ (x0.size : Int) then ((radix_four.f (x0.extract 0 4)).bind fun bt115 => (if bt115.2 = true then (if (bt115.1.length : Int) < 3 then (if (x0.extract 4 x0.size).toList = ([] : List UInt8) then (if x4.length + bt115.1.length < 140737488355328 then (radix_Decode.l0 k (x0.extract 4 x0.size) (x4 ++ bt115.1)) else (none)) else (some (([] : List Int), false))) else (if x4.length + bt115.1.length < 140737488355328 then (radix_Decode.l0 k (x0.extract 4 x0.size) (x4 ++ bt115.1)) else (none))) else (some (([] : List Int), false)))) else (none)) else (none))
def radix_Decode.f (k : Nat) (a0 : ByteArray) : Option (List Int × Bool) := if ((a0.size : Int) % 4) = 0 then (radix_Decode.l0 k a0 ([] : List Int)) else (some (([] : List Int), false))
theorem radix_Decode.mono_l : ∀ k, (∀ y0 y1, LeO (radix_Decode.l0 k y0 y1) (radix_Decode.l0 (k + 1) y0 y1))
 | 0 => fun _ _ r h => by simp [radix_Decode.l0] at h
 | k + 1 => by
  have ih0 := radix_Decode.mono_l k
  ·intro y0 y1
   unfold radix_Decode.l0
   repeat' first
   | (with_reducible exact ih0 _ _)
   | (with_reducible exact LeO.refl _)
   | (with_reducible exact LeO.none _)
   | (with_reducible refine LeO.ite ?_ ?_)
   | (with_reducible refine LeO.bind ?_ (fun _ => ?_))
   | exact ih0 _ _
   | exact LeO.none _
   | refine LeO.ite ?_ ?_
   | refine LeO.bind ?_ (fun _ => ?_)
theorem radix_Decode.mono : ∀ a0 k, LeO (radix_Decode.f k a0) (radix_Decode.f (k + 1) a0) := by
 intro a0 k
 have ih0 := radix_Decode.mono_l k
 unfold radix_Decode.f
 repeat' first
  | (with_reducible exact ih0 _ _)
  | (with_reducible exact LeO.refl _)
  | (with_reducible exact LeO.none _)
  | (with_reducible refine LeO.ite ?_ ?_)
  | (with_reducible refine LeO.bind ?_ (fun _ => ?_))
  | exact ih0 _ _
  | exact LeO.none _
  | refine LeO.ite ?_ ?_
  | refine LeO.bind ?_ (fun _ => ?_)
set_option maxHeartbeats 8000000 in
set_option maxRecDepth 100000 in
theorem radix_Decode.calls (k : Nat) (a0 : ByteArray) (r1 : List Int) (r2 : Bool) (w : World) (h : radix_Decode.f k a0 = some (r1, r2)) :
 Calls Tryz.prog 41 #[.string a0] w fun e w' => ∃ v0_ : Value, e = .returned (.tuple #[v0_, .bool r2]) ∧ Kd.R (Kd.int .u8) 5 w' w.heap.size (fun _ => True) v0_ r1 ∧ Below w.heap.size w w' := by
 have HB := Aside0.mk (Below.refl w.heap.size w)
 have H : (if ((a0.size : Int) % 4) = 0 then (radix_Decode.l0 k a0 ([] : List Int)) else (some (([] : List Int), false))) = some (r1, r2) := h
 clear h
 by_cases c2 : ((a0.size : Int) % 4) = 0
 ·rw [if_pos c2] at H
  have c2b0 : (((a0.size : Int) % 4) == 0) = true := beq_iff_eq.mpr c2
  have c2b1 : (((a0.size : Int) % 4) != 0) = false := bne_eq_false_iff_eq.mpr c2
  clear c2
  have H' := Aside0.mk H
  clear H
  go_enter Tryz.func41, Tryz.ntmps41
  go_wp2
  go_loopg [0, 4] k (fun kq v0 v4 w' => ∃ (x0_1 : ByteArray) (x4_1 : List Int), v0 = .string x0_1 ∧ Aside0 (radix_Decode.l0 kq x0_1 x4_1 = some (r1, r2)) ∧ Aside0 (kq ≤ k) ∧ Aside0 (Kd.R (Kd.int .u8) 5 w' w.heap.size (fun _ => True) v4 x4_1) ∧ Aside0 (Below w.heap.size w w'))
  case atStart => exact ⟨(a0), (([] : List Int)), (by first | rfl | (simp; done) | (simp [*]; done)), H', ⟨Nat.le_refl _⟩, ⟨by first | exact Kd.R_nil _ _ _ _ _ | exact Kd.N_nil _ _ _ _ _ | exact Kd.V_nil _ _ _ _ _ | exact Kd.Q_nil _ _ _ _ _ | exact Kd.S_nil _ _ _ _ _⟩, ⟨by repeat (first | (with_reducible first | exact HB.out | apply below_alloc | apply pw_below_drewN | apply below_drew1) | exact HB.out)⟩⟩
  case round =>
   clear H'
   try clear c2
   try clear c2b0
   try clear c2b1
   try clear p2
   obtain ⟨x0_1, x4_1, rfl, HA, HK1, HO_4, HB⟩ := hrel
   cases gk with
   | zero => exact absurd HA.out (by simp [radix_Decode.l0])
   | succ k1 =>
    have H := HA.out
    clear HA
    simp only [radix_Decode.l0] at H
    by_cases c3 : x0_1.toList = ([] : List UInt8)
    ·rw [if_pos c3] at H
     have c3b0 : (x0_1.toList == ([] : List UInt8)) = true := beq_iff_eq.mpr c3
     have c3b1 : (x0_1.toList != ([] : List UInt8)) = false := bne_eq_false_iff_eq.mpr c3
     clear c3
     simp only [Option.some.injEq, Prod.mk.injEq] at H
     obtain ⟨rfl, rfl⟩ := H
     go_wp2
     go_ret2
     exact ⟨_, by first | rfl | (simp [errW_none, errW_some] <;> rfl) | (simp [*, errW_none, errW_some] <;> rfl), by (with_reducible repeat (first | apply Kd.R_alloc | apply Kd.R_drewN | apply Kd.R_drew)); exact HO_4.out, by repeat (first | (with_reducible first | exact HB.out | apply below_alloc | apply pw_below_drewN | apply below_drew1) | exact HB.out)⟩
    ·rw [if_neg c3] at H
     have c3b0 : (x0_1.toList == ([] : List UInt8)) = false := beq_eq_false_iff_ne.mpr c3
     have c3b1 : (x0_1.toList != ([] : List UInt8)) = true := bne_iff_ne.mpr c3
     by_cases c4 : 0 ≤ 4
     ·rw [if_pos c4] at H
      have c4b0 := eq_true c4
      have c4b1 : decide (0 ≤ 4) = true := decide_eq_true c4
      clear c4
      by_cases c5 : 4 ≤ (x0_1.size : Int)
      ·rw [if_pos c5] at H
       have c5b0 := eq_true c5
       have c5b1 : decide (4 ≤ (x0_1.size : Int)) = true := decide_eq_true c5
       clear c5
       replace H := Option.bind_eq_some_iff.mp H
       obtain ⟨⟨t115, t116⟩, A60, H⟩ := H
       replace H : (if t116 = true then (if (t115.length : Int) < 3 then (if (x0_1.extract 4 x0_1.size).toList = ([] : List UInt8) then (if x4_1.length + t115.length < 140737488355328 then (radix_Decode.l0 k1 (x0_1.extract 4 x0_1.size) (x4_1 ++ t115)) else (none)) else (some (([] : List Int), false))) else (if x4_1.length + t115.length < 140737488355328 then (radix_Decode.l0 k1 (x0_1.extract 4 x0_1.size) (x4_1 ++ t115)) else (none))) else (some (([] : List Int), false))) = some (r1, r2) := H
       have A6 := Aside0.mk A60
       clear A60
       have c7b0 := eq_true (of_decide_eq_true (by first | (with_reducible assumption) | assumption) : 4 ≤ (x0_1.size : Int))
       by_cases c8 : t116 = true
       ·subst c8
        have H1 : (if (t115.length : Int) < 3 then (if (x0_1.extract 4 x0_1.size).toList = ([] : List UInt8) then (if x4_1.length + t115.length < 140737488355328 then (radix_Decode.l0 k1 (x0_1.extract 4 x0_1.size) (x4_1 ++ t115)) else (none)) else (some (([] : List Int), false))) else (if x4_1.length + t115.length < 140737488355328 then (radix_Decode.l0 k1 (x0_1.extract 4 x0_1.size) (x4_1 ++ t115)) else (none))) = some (r1, r2) := by rw [if_pos rfl] at H; exact H
        clear H
        have H := H1
        clear H1
        by_cases c9 : (t115.length : Int) < 3
        ·rw [if_pos c9] at H
         have c9b0 : decide ((t115.length : Int) < 3) = true := decide_eq_true c9
         have c9b1 : decide (t115.length < 3) = true := decide_eq_true (by omega)
         clear c9
         by_cases c10 : (x0_1.extract 4 x0_1.size).toList = ([] : List UInt8)
         ·rw [if_pos c10] at H
          have c10b0 : ((x0_1.extract 4 x0_1.size).toList == ([] : List UInt8)) = true := beq_iff_eq.mpr c10
          have c10b1 : ((x0_1.extract 4 x0_1.size).toList != ([] : List UInt8)) = false := bne_eq_false_iff_eq.mpr c10
          clear c10
          by_cases c11 : x4_1.length + t115.length < 140737488355328
          ·rw [if_pos c11] at H
           have LMc11 := Aside0.mk c11
           clear c11
           obtain ⟨y119, hy119⟩ : ∃ y_ : List Int, y_ = (x4_1 ++ t115) := ⟨_, rfl⟩
           replace H : (radix_Decode.l0 k1 (x0_1.extract 4 x0_1.size) y119) = some (r1, r2) := by first | (rw [hy119]; with_reducible exact H) | (have H2_ := (Option.bind_some _ _).symm.trans H; rw [hy119]; with_reducible exact H2_) | (have H2_ := (Option.bind_some _ _).symm.trans H; with_reducible exact H2_) | with_reducible exact H | (rw [hy119]; exact H) | exact H
           have Ny119 := Aside0.mk hy119
           clear hy119
           have H' := Aside0.mk H
           clear H
           go_wp2_with (first | ((with_reducible refine gate_callee (f := 78) rfl ?_); refine goesL_ (some 16) rfl rfl Tryz.func78 (by kernel_rfl) rfl #[.string (x0_1.extract 0 4)] rfl (by (try simp only [List.map_toArray, List.map_cons, List.map_nil]); first | done | rfl | (simp only [List.length_drop, List.length_take]; rfl)) ?_; (with_reducible refine (radix_four.calls (x0_1.extract 0 4) t115 true _ A6.out).mono ?_); rintro e w12 ⟨v117, rfl, ho0, hb⟩; refine ⟨_, rfl, ?_⟩; have n0_ := Aside0.mk (Kd.R_elder' (by (with_reducible repeat (first | apply Kd.R_alloc | apply Kd.R_drewN | apply Kd.R_drew)); exact HO_4.out) (Kd.R_base ho0) hb); have n1_ := Aside0.mk (Kd.R_lower (Kd.R_new' ho0 (Kd.R_lt (by (with_reducible repeat (first | apply Kd.R_alloc | apply Kd.R_drewN | apply Kd.R_drew)); exact HO_4.out))) (below_size (by repeat (first | (with_reducible first | exact HB.out | apply below_alloc | apply pw_below_drewN | apply below_drew1) | exact HB.out)))); have n2_ := Aside0.mk (below_step (by repeat (first | (with_reducible first | exact HB.out | apply below_alloc | apply pw_below_drewN | apply below_drew1) | exact HB.out)) hb); clear HO_4; clear HB; have HO_4 := n0_; have HO118 := n1_; have HB := n2_; clear n0_ n1_ n2_; (try clear hb); (try clear hb2); (try clear hk); (try clear hi); (try clear ho0); obtain ⟨Ao13, co13, eo13⟩ := Kd.R_slice HO118.out; subst eo13) | ((with_reducible refine gate_builtin (b := .append) (xs := #[.tmp 32, .tmp 33]) rfl ?_); (try (refine gate_guard (by rfl) ?_; dsimp only)); at_builtin; refine Kd.R_append_rows (Kd.int .u8) (w0 := w) w.heap.size rfl (.tmp 32) (.tmp 33) 29 5 (.int .u8 0) 1 rfl Tryz.underlying29 info5 rfl (by decide) (by omega) u4 x4_1 t115 _ _ _ (fun k_ => some k_ ≠ (.slice Ao13 t115.length co13 : Value).ownBlock) (fun _ => False) rfl rfl ?aO ?aR (fun _ _ h => h) (fun _ h => h.elim) ?aF ?aB ?aS ?aL ?_; (case aR => repeat (first | exact (Kd.R_reads' HO118.out).2.2 | (with_reducible refine Kd.C_alloc ?_ _) | (with_reducible refine Kd.C_drewN ?_ _) | (with_reducible refine Kd.C_drew ?_))); (case aB => exact (by repeat (first | (with_reducible first | exact HB.out | apply below_alloc | apply pw_below_drewN | apply below_drew1) | exact HB.out))); (case aF => exact (fun k_ hk => Kd.fresh' (Kd.R_lt (by (with_reducible repeat (first | apply Kd.R_alloc | apply Kd.R_drewN | apply Kd.R_drew)); exact HO118.out)) k_ hk)); (case aO => exact (by (with_reducible repeat (first | apply Kd.R_alloc | apply Kd.R_drewN | apply Kd.R_drew)); exact Kd.R_mono HO_4.out (fun _ hk => hk.2))); (case aS => exact (below_size (by repeat (first | (with_reducible first | exact HB.out | apply below_alloc | apply pw_below_drewN | apply below_drew1) | exact HB.out)))); (case aL => have := LMc11.out; omega); intro v120 w14 ho hb hg hat; rw [← Ny119.out] at ho; have n0_ := Aside0.mk (Kd.R_after (ok := (fun _ => True)) (by (with_reducible repeat (first | apply Kd.R_alloc | apply Kd.R_drewN | apply Kd.R_drew)); exact HO118.out) hg hat); have n1_ := Aside0.mk (hb); have n2_ := Aside0.mk (ho); clear HO118; clear HB; clear HO_4; have HO118 := n0_; have HB := n1_; have HO121 := n2_; clear n0_ n1_ n2_; clear ho hb hg hat))
           go_roundg k1
           case measure => have := HK1.out; omega
           case rel => exact ⟨(x0_1.extract 4 x0_1.size), (y119), (by first | rfl | (simp; done) | (simp [*]; done)), H', ⟨by have := HK1.out; omega⟩, ⟨by (with_reducible repeat (first | apply Kd.R_alloc | apply Kd.R_drewN | apply Kd.R_drew)); exact Kd.R_mono HO121.out (fun _ hk => trivial)⟩, ⟨by repeat (first | (with_reducible first | exact HB.out | apply below_alloc | apply pw_below_drewN | apply below_drew1) | exact HB.out)⟩⟩
          ·rw [if_neg c11] at H
           exact absurd H (by simp)
         ·rw [if_neg c10] at H
          have c10b0 : ((x0_1.extract 4 x0_1.size).toList == ([] : List UInt8)) = false := beq_eq_false_iff_ne.mpr c10
          have c10b1 : ((x0_1.extract 4 x0_1.size).toList != ([] : List UInt8)) = true := bne_iff_ne.mpr c10
          simp only [Option.some.injEq, Prod.mk.injEq] at H
          obtain ⟨rfl, rfl⟩ := H
          go_wp2_with (first | ((with_reducible refine gate_callee (f := 78) rfl ?_); refine goesL_ (some 16) rfl rfl Tryz.func78 (by kernel_rfl) rfl #[.string (x0_1.extract 0 4)] rfl (by (try simp only [List.map_toArray, List.map_cons, List.map_nil]); first | done | rfl | (simp only [List.length_drop, List.length_take]; rfl)) ?_; (with_reducible refine (radix_four.calls (x0_1.extract 0 4) t115 true _ A6.out).mono ?_); rintro e w15 ⟨v117, rfl, ho0, hb⟩; refine ⟨_, rfl, ?_⟩; have n0_ := Aside0.mk (Kd.R_elder' (by (with_reducible repeat (first | apply Kd.R_alloc | apply Kd.R_drewN | apply Kd.R_drew)); exact HO_4.out) (Kd.R_base ho0) hb); have n1_ := Aside0.mk (Kd.R_lower (Kd.R_new' ho0 (Kd.R_lt (by (with_reducible repeat (first | apply Kd.R_alloc | apply Kd.R_drewN | apply Kd.R_drew)); exact HO_4.out))) (below_size (by repeat (first | (with_reducible first | exact HB.out | apply below_alloc | apply pw_below_drewN | apply below_drew1) | exact HB.out)))); have n2_ := Aside0.mk (below_step (by repeat (first | (with_reducible first | exact HB.out | apply below_alloc | apply pw_below_drewN | apply below_drew1) | exact HB.out)) hb); clear HO_4; clear HB; have HO_4 := n0_; have HO118 := n1_; have HB := n2_; clear n0_ n1_ n2_; (try clear hb); (try clear hb2); (try clear hk); (try clear hi); (try clear ho0); obtain ⟨Ao16, co16, eo16⟩ := Kd.R_slice HO118.out; subst eo16))
          go_ret2
          exact ⟨_, by first | rfl | (simp [errW_none, errW_some] <;> rfl) | (simp [*, errW_none, errW_some] <;> rfl), by first | exact Kd.R_nil _ _ _ _ _ | exact Kd.N_nil _ _ _ _ _ | exact Kd.V_nil _ _ _ _ _ | exact Kd.Q_nil _ _ _ _ _ | exact Kd.S_nil _ _ _ _ _, by repeat (first | (with_reducible first | exact HB.out | apply below_alloc | apply pw_below_drewN | apply below_drew1) | exact HB.out)⟩
        ·rw [if_neg c9] at H
         have c9b0 : decide ((t115.length : Int) < 3) = false := decide_eq_false c9
         have c9b1 : decide (t115.length < 3) = false := decide_eq_false (by omega)
         clear c9
         by_cases c17 : x4_1.length + t115.length < 140737488355328
         ·rw [if_pos c17] at H
          have LMc17 := Aside0.mk c17
          clear c17
          obtain ⟨y122, hy122⟩ : ∃ y_ : List Int, y_ = (x4_1 ++ t115) := ⟨_, rfl⟩
          replace H : (radix_Decode.l0 k1 (x0_1.extract 4 x0_1.size) y122) = some (r1, r2) := by first | (rw [hy122]; with_reducible exact H) | (have H2_ := (Option.bind_some _ _).symm.trans H; rw [hy122]; with_reducible exact H2_) | (have H2_ := (Option.bind_some _ _).symm.trans H; with_reducible exact H2_) | with_reducible exact H | (rw [hy122]; exact H) | exact H
          have Ny122 := Aside0.mk hy122
          clear hy122
          have H' := Aside0.mk H
          clear H
          go_wp2_with (first | ((with_reducible refine gate_callee (f := 78) rfl ?_); refine goesL_ (some 16) rfl rfl Tryz.func78 (by kernel_rfl) rfl #[.string (x0_1.extract 0 4)] rfl (by (try simp only [List.map_toArray, List.map_cons, List.map_nil]); first | done | rfl | (simp only [List.length_drop, List.length_take]; rfl)) ?_; (with_reducible refine (radix_four.calls (x0_1.extract 0 4) t115 true _ A6.out).mono ?_); rintro e w18 ⟨v117, rfl, ho0, hb⟩; refine ⟨_, rfl, ?_⟩; have n0_ := Aside0.mk (Kd.R_elder' (by (with_reducible repeat (first | apply Kd.R_alloc | apply Kd.R_drewN | apply Kd.R_drew)); exact HO_4.out) (Kd.R_base ho0) hb); have n1_ := Aside0.mk (Kd.R_lower (Kd.R_new' ho0 (Kd.R_lt (by (with_reducible repeat (first | apply Kd.R_alloc | apply Kd.R_drewN | apply Kd.R_drew)); exact HO_4.out))) (below_size (by repeat (first | (with_reducible first | exact HB.out | apply below_alloc | apply pw_below_drewN | apply below_drew1) | exact HB.out)))); have n2_ := Aside0.mk (below_step (by repeat (first | (with_reducible first | exact HB.out | apply below_alloc | apply pw_below_drewN | apply below_drew1) | exact HB.out)) hb); clear HO_4; clear HB; have HO_4 := n0_; have HO118 := n1_; have HB := n2_; clear n0_ n1_ n2_; (try clear hb); (try clear hb2); (try clear hk); (try clear hi); (try clear ho0); obtain ⟨Ao19, co19, eo19⟩ := Kd.R_slice HO118.out; subst eo19) | ((with_reducible refine gate_builtin (b := .append) (xs := #[.tmp 32, .tmp 33]) rfl ?_); (try (refine gate_guard (by rfl) ?_; dsimp only)); at_builtin; refine Kd.R_append_rows (Kd.int .u8) (w0 := w) w.heap.size rfl (.tmp 32) (.tmp 33) 29 5 (.int .u8 0) 1 rfl Tryz.underlying29 info5 rfl (by decide) (by omega) u4 x4_1 t115 _ _ _ (fun k_ => some k_ ≠ (.slice Ao19 t115.length co19 : Value).ownBlock) (fun _ => False) rfl rfl ?aO ?aR (fun _ _ h => h) (fun _ h => h.elim) ?aF ?aB ?aS ?aL ?_; (case aR => repeat (first | exact (Kd.R_reads' HO118.out).2.2 | (with_reducible refine Kd.C_alloc ?_ _) | (with_reducible refine Kd.C_drewN ?_ _) | (with_reducible refine Kd.C_drew ?_))); (case aB => exact (by repeat (first | (with_reducible first | exact HB.out | apply below_alloc | apply pw_below_drewN | apply below_drew1) | exact HB.out))); (case aF => exact (fun k_ hk => Kd.fresh' (Kd.R_lt (by (with_reducible repeat (first | apply Kd.R_alloc | apply Kd.R_drewN | apply Kd.R_drew)); exact HO118.out)) k_ hk)); (case aO => exact (by (with_reducible repeat (first | apply Kd.R_alloc | apply Kd.R_drewN | apply Kd.R_drew)); exact Kd.R_mono HO_4.out (fun _ hk => hk.2))); (case aS => exact (below_size (by repeat (first | (with_reducible first | exact HB.out | apply below_alloc | apply pw_below_drewN | apply below_drew1) | exact HB.out)))); (case aL => have := LMc17.out; omega); intro v123 w20 ho hb hg hat; rw [← Ny122.out] at ho; have n0_ := Aside0.mk (Kd.R_after (ok := (fun _ => True)) (by (with_reducible repeat (first | apply Kd.R_alloc | apply Kd.R_drewN | apply Kd.R_drew)); exact HO118.out) hg hat); have n1_ := Aside0.mk (hb); have n2_ := Aside0.mk (ho); clear HO118; clear HB; clear HO_4; have HO118 := n0_; have HB := n1_; have HO124 := n2_; clear n0_ n1_ n2_; clear ho hb hg hat))
          go_roundg k1
          case measure => have := HK1.out; omega
          case rel => exact ⟨(x0_1.extract 4 x0_1.size), (y122), (by first | rfl | (simp; done) | (simp [*]; done)), H', ⟨by have := HK1.out; omega⟩, ⟨by (with_reducible repeat (first | apply Kd.R_alloc | apply Kd.R_drewN | apply Kd.R_drew)); exact Kd.R_mono HO124.out (fun _ hk => trivial)⟩, ⟨by repeat (first | (with_reducible first | exact HB.out | apply below_alloc | apply pw_below_drewN | apply below_drew1) | exact HB.out)⟩⟩
         ·rw [if_neg c17] at H
          exact absurd H (by simp)
       ·replace c8 := Bool.eq_false_iff.mpr c8
        subst c8
        have H1 : (some (([] : List Int), false)) = some (r1, r2) := by rw [if_neg (show ¬ (false = true) by decide)] at H; exact H
        clear H
        have H := H1
        clear H1
        simp only [Option.some.injEq, Prod.mk.injEq] at H
        obtain ⟨rfl, rfl⟩ := H
        go_wp2_with (first | ((with_reducible refine gate_callee (f := 78) rfl ?_); refine goesL_ (some 16) rfl rfl Tryz.func78 (by kernel_rfl) rfl #[.string (x0_1.extract 0 4)] rfl (by (try simp only [List.map_toArray, List.map_cons, List.map_nil]); first | done | rfl | (simp only [List.length_drop, List.length_take]; rfl)) ?_; (with_reducible refine (radix_four.calls (x0_1.extract 0 4) t115 false _ A6.out).mono ?_); rintro e w21 ⟨v117, rfl, ho0, hb⟩; refine ⟨_, rfl, ?_⟩; have n0_ := Aside0.mk (Kd.R_elder' (by (with_reducible repeat (first | apply Kd.R_alloc | apply Kd.R_drewN | apply Kd.R_drew)); exact HO_4.out) (Kd.R_base ho0) hb); have n1_ := Aside0.mk (Kd.R_lower (Kd.R_new' ho0 (Kd.R_lt (by (with_reducible repeat (first | apply Kd.R_alloc | apply Kd.R_drewN | apply Kd.R_drew)); exact HO_4.out))) (below_size (by repeat (first | (with_reducible first | exact HB.out | apply below_alloc | apply pw_below_drewN | apply below_drew1) | exact HB.out)))); have n2_ := Aside0.mk (below_step (by repeat (first | (with_reducible first | exact HB.out | apply below_alloc | apply pw_below_drewN | apply below_drew1) | exact HB.out)) hb); clear HO_4; clear HB; have HO_4 := n0_; have HO118 := n1_; have HB := n2_; clear n0_ n1_ n2_; (try clear hb); (try clear hb2); (try clear hk); (try clear hi); (try clear ho0)))
        go_ret2
        exact ⟨_, by first | rfl | (simp [errW_none, errW_some] <;> rfl) | (simp [*, errW_none, errW_some] <;> rfl), by first | exact Kd.R_nil _ _ _ _ _ | exact Kd.N_nil _ _ _ _ _ | exact Kd.V_nil _ _ _ _ _ | exact Kd.Q_nil _ _ _ _ _ | exact Kd.S_nil _ _ _ _ _, by repeat (first | (with_reducible first | exact HB.out | apply below_alloc | apply pw_below_drewN | apply below_drew1) | exact HB.out)⟩
      ·rw [if_neg c5] at H
       exact absurd H (by simp)
     ·rw [if_neg c4] at H
      exact absurd H (by simp)
 ·rw [if_neg c2] at H
  have c2b0 : (((a0.size : Int) % 4) == 0) = false := beq_eq_false_iff_ne.mpr c2
  have c2b1 : (((a0.size : Int) % 4) != 0) = true := bne_iff_ne.mpr c2
  simp only [Option.some.injEq, Prod.mk.injEq] at H
  obtain ⟨rfl, rfl⟩ := H
  go_enter Tryz.func41, Tryz.ntmps41
  go_wp2
  go_ret2
  exact ⟨_, by first | rfl | (simp [errW_none, errW_some] <;> rfl) | (simp [*, errW_none, errW_some] <;> rfl), by first | exact Kd.R_nil _ _ _ _ _ | exact Kd.N_nil _ _ _ _ _ | exact Kd.V_nil _ _ _ _ _ | exact Kd.Q_nil _ _ _ _ _ | exact Kd.S_nil _ _ _ _ _, by repeat (first | (with_reducible first | exact HB.out | apply below_alloc | apply pw_below_drewN | apply below_drew1) | exact HB.out)⟩

end Go.Proofs.YtcbmjmphicfgpaaGreatDoor.PT
end

section
set_option linter.unusedVariables false
namespace Go.Proofs.YtcbmjmphicfgpaaGreatDoor.Rad
open Go.RowKit Go.Proofs.YtcbmjmphicfgpaaGreatDoorW.PrintWords Go.Proofs.YtcbmjmphicfgpaaGreatDoorW.PrintLast Go.Proofs.YtcbmjmphicfgpaaGreatDoorW.PrintMore

def Byt (l : List Int) : Prop := ∀ x ∈ l, 0 ≤ x ∧ x < 256
theorem bytesOf_byt (s : ByteArray) : Byt (bytesOf s) := by
 intro x hx
 obtain ⟨b, _, rfl⟩ := List.mem_map.1 hx
 have := b.toNat_lt
 omega
theorem strOfNums_bytesOf (s : ByteArray) : strOfNums (bytesOf s) = s := by
 apply ByteArray.ext
 apply Array.ext'
 simp [strOfNums, bytesOf, List.map_map, Function.comp_def]
theorem bytesOf_strOfNums (l : List Int) (h : Byt l) : bytesOf (strOfNums l) = l := by
 simp only [strOfNums, bytesOf, List.map_map]
 have : ∀ x ∈ l, ((fun b : UInt8 => (b.toNat : Int)) ∘ fun n : Int => UInt8.ofNat n.toNat) x = x := by
  intro x hx
  have h1 := h x hx
  simp only [Function.comp]
  rw [UInt8.toNat_ofNat_of_lt' (by simp [UInt8.size]; omega)]
  omega
 rw [List.map_congr_left this, List.map_id']
theorem strOfNums_size (l : List Int) : (strOfNums l).size = l.length := by simp [strOfNums, ByteArray.size]
theorem bt_str (l : List Int) (h : Byt l) (i : Int) : bt (strOfNums l) i = rd l i := by rw [← rd_bytesOf, bytesOf_strOfNums l h]
theorem idx_sg : ∀ n : Fin 64, idx (sg (n.val : Int)) = (n.val : Int) ∧ ¬ sg (n.val : Int) = 61 := by decide +kernel
theorem sg_idx : ∀ c : Fin 256, 0 ≤ idx (c.val : Int) → idx (c.val : Int) < 64 ∧ sg (idx (c.val : Int)) = (c.val : Int) := by decide +kernel
theorem idx_pad : idx 61 = -1 := by decide +kernel
theorem idx_sg' {n : Int} (h : 0 ≤ n) (h1 : n < 64) : idx (sg n) = n ∧ ¬ sg n = 61 := by
 obtain ⟨m, rfl⟩ := Int.eq_ofNat_of_zero_le h
 exact idx_sg ⟨m, by omega⟩
theorem sg_idx' {c : Int} (h : 0 ≤ c) (h1 : c < 256) (h2 : 0 ≤ idx c) : idx c < 64 ∧ sg (idx c) = c := by
 obtain ⟨m, rfl⟩ := Int.eq_ofNat_of_zero_le h
 exact sg_idx ⟨m, by omega⟩ h2

theorem shl_or {b y : Int} (h : 0 ≤ b) (h1 : b < 16777216) (hy : 0 ≤ y) (hy1 : y < 64) : Go.bits .or .i64 (wrap64 (b * 64)) y = b * 64 + y := by
 have e : wrap64 (b * 64) = b * 64 := by unfold wrap64; omega
 rw [e]
 exact bits_join .i64 62 (by decide) (fun n h₀ h₁ => by rw [IntKind.wrap_i64]; omega) 6 _ _ (by omega) (by omega) (by omega) hy (by omega) (by omega)
theorem and_mask16 {b : Int} (h : 0 ≤ b) (h1 : b < 16777216) : Go.bits .and .i64 b 65535 = b % 65536 := bits_mask .i64 62 (by decide) (fun n h₀ h₁ => by rw [IntKind.wrap_i64]; omega) 16 (by decide) b h (by omega)
theorem and_mask8 {b : Int} (h : 0 ≤ b) (h1 : b < 16777216) : Go.bits .and .i64 b 255 = b % 256 := bits_mask .i64 62 (by decide) (fun n h₀ h₁ => by rw [IntKind.wrap_i64]; omega) 8 (by decide) b h (by omega)
theorem and_mask0 {b : Int} (h : 0 ≤ b) (h1 : b < 16777216) : Go.bits .and .i64 b 0 = 0 := by
 have := bits_mask .i64 62 (by decide) (fun n h₀ h₁ => by rw [IntKind.wrap_i64]; omega) 0 (by decide) b h (by omega)
 simpa using this

/-- Four signs' bytes, told by cases. -/
def f4 (c0 c1 c2 c3 : Int) : List Int × Bool :=
 if idx c0 < 0 ∨ idx c1 < 0 then ([], false)
 else if c2 = 61 then (if c3 = 61 then fres ((idx c0 * 64 + idx c1) * 4096) 1 else ([], false))
 else if idx c2 < 0 then ([], false)
 else if c3 = 61 then fres (((idx c0 * 64 + idx c1) * 64 + idx c2) * 64) 2
 else if idx c3 < 0 then ([], false)
 else fres (((idx c0 * 64 + idx c1) * 64 + idx c2) * 64 + idx c3) 3

theorem fst_zero (s : ByteArray) : fst s 0 = some (0, 3) := rfl
theorem bt256 (s : ByteArray) (i : Int) : 0 ≤ bt s i ∧ bt s i < 256 := by have := bt_range s i; omega
theorem idx_lt {c : Int} (h : 0 ≤ c ∧ c < 256) : idx c < 64 := by
 by_cases h2 : 0 ≤ idx c
 ·exact (sg_idx' h.1 h.2 h2).1
 ·omega
theorem four_f4 (s : ByteArray) : four s = f4 (bt s 0) (bt s 1) (bt s 2) (bt s 3) := by
 have hb0 := bt256 s 0
 have hb1 := bt256 s 1
 have hb2 := bt256 s 2
 have hb3 := bt256 s 3
 have l0 := idx_lt hb0
 have l1 := idx_lt hb1
 have l2 := idx_lt hb2
 have l3 := idx_lt hb3
 have s1 := fst_succ (fst_zero s)
 unfold f4
 by_cases h0 : idx (bt s 0) < 0
 ·rw [if_pos (Or.inl h0)]
  refine four_none (j := 1) (by omega) (s1.trans ?_)
  unfold fstep
  rw [if_neg (by omega), if_pos (by exact h0)]
 have n0 : ¬ bt s 0 = 61 := fun h => by rw [h, idx_pad] at h0; omega
 replace s1 : fst s 1 = some (idx (bt s 0), 3) := by
  rw [s1]
  refine (fstep_C n0 (by simpa using h0) (by simp)).trans ?_
  rw [shl_or (by omega) (by omega) (by exact Int.not_lt.1 h0) (by exact l0)]
  simp
 have s2 := fst_succ s1
 by_cases h1 : idx (bt s 1) < 0
 ·rw [if_pos (Or.inr h1)]
  refine four_none (j := 2) (by omega) (s2.trans ?_)
  unfold fstep
  rw [if_neg (by omega), if_pos (by exact h1)]
 rw [if_neg (by omega)]
 have n1 : ¬ bt s 1 = 61 := fun h => by rw [h, idx_pad] at h1; omega
 replace s2 : fst s 2 = some (idx (bt s 0) * 64 + idx (bt s 1), 3) := by
  rw [s2]
  refine (fstep_C n1 (Int.not_lt.1 h1) (by simp)).trans ?_
  rw [shl_or (by omega) (by omega) (Int.not_lt.1 h1) l1]
 have s3 := fst_succ s2
 by_cases h2 : bt s 2 = 61
 ·rw [if_pos h2]
  replace s3 : fst s 3 = some ((idx (bt s 0) * 64 + idx (bt s 1)) * 64, 1) := by
   rw [s3]
   refine (fstep_A h2 (by omega) (by simp)).trans ?_
   rw [shl_or (by omega) (by omega) (by omega) (by omega)]
   simp
  have s4 := fst_succ s3
  by_cases h3 : bt s 3 = 61
  ·rw [if_pos h3]
   refine four_some (s4.trans ((fstep_B h3 (by omega) (by simp)).trans ?_))
   rw [shl_or (by omega) (by omega) (by omega) (by omega)]
   congr 2
   omega
  ·rw [if_neg h3]
   refine four_none (j := 4) (by omega) (s4.trans ?_)
   by_cases h4 : idx (bt s 3) < 0
   ·exact fstep_N1 h3 h4
   ·exact fstep_N2 h3 (Int.not_lt.1 h4) (by simp)
 ·rw [if_neg h2]
  by_cases h4 : idx (bt s 2) < 0
  ·rw [if_pos h4]
   exact four_none (j := 3) (by omega) (s3.trans (fstep_N1 h2 h4))
  rw [if_neg h4]
  replace s3 : fst s 3 = some ((idx (bt s 0) * 64 + idx (bt s 1)) * 64 + idx (bt s 2), 3) := by
   rw [s3]
   refine (fstep_C h2 (Int.not_lt.1 h4) (by simp)).trans ?_
   rw [shl_or (by omega) (by omega) (Int.not_lt.1 h4) l2]
  have s4 := fst_succ s3
  by_cases h3 : bt s 3 = 61
  ·rw [if_pos h3]
   refine four_some (s4.trans ((fstep_A h3 (by omega) (by simp)).trans ?_))
   rw [shl_or (by omega) (by omega) (by omega) (by omega)]
   simp
  ·rw [if_neg h3]
   by_cases h5 : idx (bt s 3) < 0
   ·rw [if_pos h5]
    exact four_none (j := 4) (by omega) (s4.trans (fstep_N1 h3 h5))
   ·rw [if_neg h5]
    refine four_some (s4.trans ((fstep_C h3 (Int.not_lt.1 h5) (by simp)).trans ?_))
    rw [shl_or (by omega) (by omega) (Int.not_lt.1 h5) l3]

theorem enc_append (x y : List Int) (h : x.length % 3 = 0) : enc (x ++ y) = enc x ++ enc y := by
 match x, h with
 | [], _ => simp [enc]
 | a :: b :: c :: r, h =>
  have := enc_append r y (by simp only [List.length_cons] at h; omega)
  simp only [List.cons_append, enc, this, List.append_assoc]
theorem fres1 {b : Int} (h : 0 ≤ b) (h1 : b < 16777216) : fres b 1 = if b % 65536 = 0 then ([b / 65536 % 256], true) else ([], false) := by
 unfold fres fmask
 rw [if_pos (rfl : (1 : Int) = 1), and_mask16 h h1]
 rfl
theorem fres2 {b : Int} (h : 0 ≤ b) (h1 : b < 16777216) : fres b 2 = if b % 256 = 0 then ([b / 65536 % 256, b / 256 % 256], true) else ([], false) := by
 unfold fres fmask
 rw [if_neg (show ¬ (2 : Int) = 1 by decide), if_pos (rfl : (2 : Int) = 2), and_mask8 h h1]
 rfl
theorem fres3 {b : Int} (h : 0 ≤ b) (h1 : b < 16777216) : fres b 3 = ([b / 65536 % 256, b / 256 % 256, b % 256], true) := by
 unfold fres fmask
 rw [if_neg (show ¬ (3 : Int) = 1 by decide), if_neg (show ¬ (3 : Int) = 2 by decide), and_mask0 h h1, if_pos rfl]
 rfl
theorem qd1 (q : Int) : qd q 1 = [sg (q / 262144 % 64), sg (q / 4096 % 64), 61, 61] := by simp [qd]
theorem qd2 (q : Int) : qd q 2 = [sg (q / 262144 % 64), sg (q / 4096 % 64), sg (q / 64 % 64), 61] := by simp [qd]
theorem qd3 (q : Int) : qd q 3 = [sg (q / 262144 % 64), sg (q / 4096 % 64), sg (q / 64 % 64), sg (q % 64)] := by simp [qd]
theorem f4_of {x y : Int} (hx : 0 ≤ x) (hx1 : x < 64) (hy : 0 ≤ y) (hy1 : y < 64) (c2 c3 : Int) : f4 (sg x) (sg y) c2 c3 =
 if c2 = 61 then (if c3 = 61 then fres ((x * 64 + y) * 4096) 1 else ([], false))
 else if idx c2 < 0 then ([], false)
 else if c3 = 61 then fres (((x * 64 + y) * 64 + idx c2) * 64) 2
 else if idx c3 < 0 then ([], false)
 else fres (((x * 64 + y) * 64 + idx c2) * 64 + idx c3) 3 := by
 unfold f4
 rw [(idx_sg' hx hx1).1, (idx_sg' hy hy1).1, if_neg (by omega)]
/-- The bytes of the text of one to three bytes. -/
theorem four_enc1 (a : Int) (h : 0 ≤ a ∧ a < 256) : four (strOfNums (enc [a])) = ([a], true) := by
 have hr := enc_range [a]
 rw [four_f4, bt_str _ hr, bt_str _ hr, bt_str _ hr, bt_str _ hr, enc, qd1]
 show f4 (sg _) (sg _) 61 61 = _
 rw [f4_of (by omega) (by omega) (by omega) (by omega), if_pos rfl, if_pos rfl, fres1 (by omega) (by omega), if_pos (by omega)]
 congr 2
 omega
theorem four_enc2 (a b : Int) (h : 0 ≤ a ∧ a < 256) (hb : 0 ≤ b ∧ b < 256) : four (strOfNums (enc [a, b])) = ([a, b], true) := by
 have hr := enc_range [a, b]
 rw [four_f4, bt_str _ hr, bt_str _ hr, bt_str _ hr, bt_str _ hr, enc, qd2]
 show f4 (sg _) (sg _) (sg _) 61 = _
 have h2 := idx_sg' (n := (a * 65536 + b * 256) / 64 % 64) (by omega) (by omega)
 rw [f4_of (by omega) (by omega) (by omega) (by omega), if_neg h2.2, h2.1, if_neg (by omega), if_pos rfl, fres2 (by omega) (by omega), if_pos (by omega)]
 congr 2
 ·omega
 ·congr 1
  omega
theorem four_enc3 (a b c : Int) (h : 0 ≤ a ∧ a < 256) (hb : 0 ≤ b ∧ b < 256) (hc : 0 ≤ c ∧ c < 256) : four (strOfNums (qd (a * 65536 + b * 256 + c) 3)) = ([a, b, c], true) := by
 have hr := qd_range (a * 65536 + b * 256 + c) 3
 rw [four_f4, bt_str _ hr, bt_str _ hr, bt_str _ hr, bt_str _ hr, qd3]
 show f4 (sg _) (sg _) (sg _) (sg _) = _
 have h2 := idx_sg' (n := (a * 65536 + b * 256 + c) / 64 % 64) (by omega) (by omega)
 have h3 := idx_sg' (n := (a * 65536 + b * 256 + c) % 64) (by omega) (by omega)
 rw [f4_of (by omega) (by omega) (by omega) (by omega), if_neg h2.2, h2.1, if_neg (by omega), if_neg h3.2, h3.1, if_neg (by omega), fres3 (by omega) (by omega)]
 congr 2
 ·omega
 ·congr 1
  ·omega
  ·congr 1
   omega
theorem bytes4 (s : ByteArray) (h : s.size = 4) : bytesOf s = [bt s 0, bt s 1, bt s 2, bt s 3] := by
 have hl : (bytesOf s).length = 4 := by rw [bytesOf_length, h]
 simp only [← rd_bytesOf]
 match bytesOf s, hl with
 | [a, b, c, d], _ => rfl
theorem sg_at {x c : Int} (hc : sg (idx c) = c) (h : x = idx c) : sg x = c := by rw [h, hc]
theorem list4 {a b c d a' b' c' d' : Int} (h : a = a') (h1 : b = b') (h2 : c = c') (h3 : d = d') : [a, b, c, d] = [a', b', c', d'] := by rw [h, h1, h2, h3]
/-- What four signs are the bytes of. -/
theorem four_back (s : ByteArray) (h : s.size = 4) (l : List Int) (hf : four s = (l, true)) : enc l = bytesOf s ∧ Byt l ∧ 1 ≤ l.length ∧ l.length ≤ 3 ∧ (l.length < 3 → bt s 3 = 61) := by
 rw [four_f4] at hf
 rw [bytes4 s h]
 have hb0 := bt256 s 0
 have hb1 := bt256 s 1
 have hb2 := bt256 s 2
 have hb3 := bt256 s 3
 generalize bt s 0 = c0 at *
 generalize bt s 1 = c1 at *
 generalize bt s 2 = c2 at *
 generalize bt s 3 = c3 at *
 unfold f4 at hf
 by_cases h01 : idx c0 < 0 ∨ idx c1 < 0
 ·rw [if_pos h01] at hf; cases hf
 rw [if_neg h01] at hf
 have e0 := sg_idx' hb0.1 hb0.2 (by omega)
 have e1 := sg_idx' hb1.1 hb1.2 (by omega)
 by_cases h2 : c2 = 61
 ·rw [if_pos h2] at hf
  by_cases h3 : c3 = 61
  ·rw [if_pos h3, fres1 (by omega) (by omega)] at hf
   by_cases hm : (idx c0 * 64 + idx c1) * 4096 % 65536 = 0
   ·rw [if_pos hm] at hf
    obtain ⟨rfl, _⟩ := Prod.mk.inj hf
    refine ⟨?_, ?_, by simp, by simp, fun _ => h3⟩
    ·rw [enc, qd1]
     exact list4 (sg_at e0.2 (by omega)) (sg_at e1.2 (by omega)) h2.symm h3.symm
    ·intro x hx
     simp at hx
     omega
   ·rw [if_neg hm] at hf; cases hf
  ·rw [if_neg h3] at hf; cases hf
 rw [if_neg h2] at hf
 by_cases h2i : idx c2 < 0
 ·rw [if_pos h2i] at hf; cases hf
 rw [if_neg h2i] at hf
 have e2 := sg_idx' hb2.1 hb2.2 (by omega)
 by_cases h3 : c3 = 61
 ·rw [if_pos h3, fres2 (by omega) (by omega)] at hf
  by_cases hm : ((idx c0 * 64 + idx c1) * 64 + idx c2) * 64 % 256 = 0
  ·rw [if_pos hm] at hf
   obtain ⟨rfl, _⟩ := Prod.mk.inj hf
   refine ⟨?_, ?_, by simp, by simp, fun _ => h3⟩
   ·rw [enc, qd2]
    exact list4 (sg_at e0.2 (by omega)) (sg_at e1.2 (by omega)) (sg_at e2.2 (by omega)) h3.symm
   ·intro x hx
    simp at hx
    omega
  ·rw [if_neg hm] at hf; cases hf
 rw [if_neg h3] at hf
 by_cases h3i : idx c3 < 0
 ·rw [if_pos h3i] at hf; cases hf
 have e3 := sg_idx' hb3.1 hb3.2 (by omega)
 rw [if_neg h3i, fres3 (by omega) (by omega)] at hf
 obtain ⟨rfl, _⟩ := Prod.mk.inj hf
 refine ⟨?_, ?_, by simp, by simp, fun hh => by simp at hh⟩
 ·rw [enc, enc, qd3, List.append_nil]
  exact list4 (sg_at e0.2 (by omega)) (sg_at e1.2 (by omega)) (sg_at e2.2 (by omega)) (sg_at e3.2 (by omega))
 ·intro x hx
  simp at hx
  omega

theorem enc3 (a b c : Int) (r : List Int) : enc (a :: b :: c :: r) = qd (a * 65536 + b * 256 + c) 3 ++ enc r := by rw [enc]
theorem four_enc (l : List Int) (h : Byt l) (hl : 1 ≤ l.length) (hl3 : l.length ≤ 3) : four (strOfNums (enc l)) = (l, true) := by
 match l, hl, hl3 with
 | [a], _, _ => exact four_enc1 a (h a (by simp))
 | [a, b], _, _ => exact four_enc2 a b (h a (by simp)) (h b (by simp))
 | [a, b, c], _, _ =>
  have := four_enc3 a b c (h a (by simp)) (h b (by simp)) (h c (by simp))
  rw [enc3]
  simpa [enc] using this
theorem enc_inj (l m : List Int) (hl : Byt l) (hm : Byt m) (h : enc l = enc m) : l = m := by
 have hlen := congrArg List.length h
 rw [enc_length, enc_length] at hlen
 by_cases h0 : l.length = 0
 ·have h1 : m.length = 0 := by omega
  rw [List.eq_nil_of_length_eq_zero h0, List.eq_nil_of_length_eq_zero h1]
 by_cases h3 : l.length ≤ 3
 ·have e1 := four_enc l hl (by omega) h3
  have e2 := four_enc m hm (by omega) (by omega)
  rw [h, e2] at e1
  exact (Prod.mk.inj e1).1.symm
 ·match l, m, h3, hlen with
  | a :: b :: c :: r, a' :: b' :: c' :: r', h3, hlen =>
   rw [enc3, enc3] at h
   obtain ⟨hq, hr⟩ := List.append_inj h rfl
   have e1 := four_enc3 a b c (hl a (by simp)) (hl b (by simp)) (hl c (by simp))
   have e2 := four_enc3 a' b' c' (hm a' (by simp)) (hm b' (by simp)) (hm c' (by simp))
   rw [hq, e2] at e1
   have e3 := (Prod.mk.inj e1).1
   have := enc_inj r r' (fun x hx => hl x (by simp [hx])) (fun x hx => hm x (by simp [hx])) hr
   rw [this]
   simp only [List.cons.injEq] at e3
   rw [e3.1, e3.2.1, e3.2.2.1]
  | a :: b :: c :: r, [], h3, hlen => exfalso; simp only [List.length_cons, List.length_nil] at hlen h3; omega
  | a :: b :: c :: r, [x], h3, hlen => exfalso; simp only [List.length_cons, List.length_nil] at hlen h3; omega
  | a :: b :: c :: r, [x, y], h3, hlen => exfalso; simp only [List.length_cons, List.length_nil] at hlen h3; omega
  | [], _, h3, _ => simp at h3
  | [x], _, h3, _ => simp at h3
  | [x, y], _, h3, _ => simp at h3
theorem str_take (L : List Int) : (strOfNums L).extract 0 4 = strOfNums (L.take 4) := by
 apply ByteArray.ext
 apply Array.ext'
 simp [strOfNums, List.map_take]
theorem str_drop (L : List Int) : (strOfNums L).extract 4 (strOfNums L).size = strOfNums (L.drop 4) := by
 apply ByteArray.ext
 apply Array.ext'
 simp [strOfNums, ByteArray.size]
 rw [List.take_of_length_le (by simp)]
theorem str_toList (L : List Int) : (strOfNums L).toList = [] ↔ L = [] := by
 rw [Lib.toList_data]
 simp [strOfNums]
end Go.Proofs.YtcbmjmphicfgpaaGreatDoor.Rad
end

section
set_option linter.unusedVariables false
namespace Go.Proofs.YtcbmjmphicfgpaaGreatDoor.Rad
open Go.RowKit Go.Proofs.YtcbmjmphicfgpaaGreatDoorW.PrintWords Go.Proofs.YtcbmjmphicfgpaaGreatDoorW.PrintLast Go.Proofs.YtcbmjmphicfgpaaGreatDoorW.PrintMore Go.Proofs.YtcbmjmphicfgpaaGreatDoor.PT

def DecTold (L acc : List Int) (r : List Int) (ok : Bool) : Prop :=
 (ok = true ∧ ∃ l, Byt l ∧ enc l = L ∧ r = acc ++ l) ∨ (ok = false ∧ r = [] ∧ ∀ l, Byt l → enc l ≠ L)

theorem byt_take {L : List Int} (h : Byt L) (n : Nat) : Byt (L.take n) := fun x hx => h x (List.mem_of_mem_take hx)
theorem byt_drop {L : List Int} (h : Byt L) (n : Nat) : Byt (L.drop n) := fun x hx => h x (List.mem_of_mem_drop hx)

/-- Of what text four signs and more are: those of three bytes and more, or all of one or two bytes. -/
theorem enc_split (l L : List Int) (hl : Byt l) (h : enc l = L) (hL : 4 ≤ L.length) :
 (∃ a b c r, l = a :: b :: c :: r ∧ qd (a * 65536 + b * 256 + c) 3 = L.take 4 ∧ enc r = L.drop 4) ∨ (1 ≤ l.length ∧ l.length ≤ 2 ∧ L.drop 4 = [] ∧ L.take 4 = L) := by
 subst h
 match l with
 | [] => simp [enc] at hL
 | [a] => exact .inr ⟨by simp, by simp, rfl, rfl⟩
 | [a, b] => exact .inr ⟨by simp, by simp, rfl, rfl⟩
 | a :: b :: c :: r =>
  refine .inl ⟨a, b, c, r, rfl, ?_, ?_⟩
  ·rw [enc3, List.take_append_of_le_length (by rw [qd_length]; omega), List.take_of_length_le (by rw [qd_length]; omega)]
  ·rw [enc3, List.drop_append_of_le_length (by rw [qd_length]; omega), List.drop_of_length_le (by rw [qd_length]; omega)]
   rfl

theorem decode_l0 (n : Nat) : ∀ (L : List Int), Byt L → L.length = 4 * n → ∀ (k : Nat) (acc : List Int), n < k → acc.length + 3 * n < 140737488355328 →
 ∃ r ok, radix_Decode.l0 k (strOfNums L) acc = some (r, ok) ∧ DecTold L acc r ok := by
 induction n with
 | zero =>
  intro L hL hn k acc hk hb
  obtain ⟨k, rfl⟩ : ∃ m, k = m + 1 := ⟨k - 1, by omega⟩
  obtain rfl : L = [] := List.eq_nil_of_length_eq_zero (by omega)
  refine ⟨acc, true, ?_, .inl ⟨rfl, [], by simp [Byt], rfl, by simp⟩⟩
  simp only [radix_Decode.l0]
  rw [if_pos ((str_toList []).2 rfl)]
 | succ n ih =>
  intro L hL hn k acc hk hb
  obtain ⟨k, rfl⟩ : ∃ m, k = m + 1 := ⟨k - 1, by omega⟩
  have hne : ¬ L = [] := by rintro rfl; simp at hn
  have hq : (L.take 4).length = 4 := by rw [List.length_take]; omega
  have hd : (L.drop 4).length = 4 * n := by rw [List.length_drop]; omega
  have hsz : (strOfNums (L.take 4)).size = 4 := by rw [strOfNums_size, hq]
  have hcut : L.take 4 ++ L.drop 4 = L := List.take_append_drop 4 L
  have hs4 : ((4 : Int) ≤ ((strOfNums L).size : Int)) := by rw [strOfNums_size]; omega
  simp only [radix_Decode.l0]
  rw [if_neg (fun h => hne ((str_toList L).1 h)), if_pos (by decide), if_pos hs4, str_take, str_drop]
  unfold radix_four.f
  rw [if_pos hsz]
  simp only [Option.bind_some]
  cases hf : four (strOfNums (L.take 4)) with
  | mk l3 ok =>
  cases ok with
  | false =>
   simp only [Bool.false_eq_true, if_false]
   refine ⟨[], false, rfl, .inr ⟨rfl, rfl, fun l hl he => ?_⟩⟩
   rcases enc_split l L hl he (by omega) with ⟨a, b, c, r, rfl, hqd, _⟩ | ⟨h1, h2, _, h4⟩
   ·have e := four_enc3 a b c (hl a (by simp)) (hl b (by simp)) (hl c (by simp))
    rw [hqd, hf] at e
    cases e
   ·have e := four_enc l hl h1 (by omega)
    rw [he, ← h4, hf] at e
    cases e
  | true =>
   obtain ⟨he3, hb3, hl1, hl3, hpad⟩ := four_back _ hsz l3 hf
   rw [bytesOf_strOfNums _ (byt_take hL 4)] at he3
   rw [bt_str _ (byt_take hL 4)] at hpad
   simp only [if_true]
   by_cases hs : l3.length < 3
   ·rw [if_pos (show ((l3.length : Int) < 3) by omega)]
    by_cases hnil : L.drop 4 = []
    ·rw [if_pos ((str_toList _).2 hnil), if_pos (by omega)]
     obtain ⟨r, ok, h1, h2⟩ := ih (L.drop 4) (byt_drop hL 4) hd k (acc ++ l3) (by omega) (by rw [List.length_append]; omega)
     refine ⟨r, ok, h1, ?_⟩
     rcases h2 with ⟨rfl, l, hlb, hle, rfl⟩ | ⟨rfl, rfl, hno⟩
     ·have hl0 : l = [] := by
       have := congrArg List.length hle
       rw [enc_length, hnil] at this
       exact List.eq_nil_of_length_eq_zero (by simp at this; omega)
      subst hl0
      exact .inl ⟨rfl, l3, hb3, he3.trans (by have hc2 := hcut; rw [hnil, List.append_nil] at hc2; exact hc2), by simp⟩
     ·exact absurd (by rw [hnil]; rfl) (hno [] (by simp [Byt]))
    ·rw [if_neg (fun h => hnil ((str_toList _).1 h))]
     refine ⟨[], false, rfl, .inr ⟨rfl, rfl, fun l hl he => ?_⟩⟩
     rcases enc_split l L hl he (by omega) with ⟨a, b, c, r, rfl, hqd, _⟩ | ⟨h1, h2, h3, _⟩
     ·have hp := hpad hs
      rw [← hqd, qd3] at hp
      have a1 := hl a (by simp)
      have b1 := hl b (by simp)
      have c1 := hl c (by simp)
      exact (idx_sg' (n := (a * 65536 + b * 256 + c) % 64) (by omega) (by omega)).2 hp
     ·exact hnil h3
   ·rw [if_neg (show ¬ ((l3.length : Int) < 3) by omega), if_pos (by omega)]
    obtain ⟨r, ok, h1, h2⟩ := ih (L.drop 4) (byt_drop hL 4) hd k (acc ++ l3) (by omega) (by rw [List.length_append]; omega)
    refine ⟨r, ok, h1, ?_⟩
    rcases h2 with ⟨rfl, l, hlb, hle, rfl⟩ | ⟨rfl, rfl, hno⟩
    ·refine .inl ⟨rfl, l3 ++ l, fun x hx => (List.mem_append.1 hx).elim (hb3 x) (hlb x), ?_, by simp⟩
     rw [enc_append _ _ (by omega), he3, hle, hcut]
    ·refine .inr ⟨rfl, rfl, fun l hl he => ?_⟩
     rcases enc_split l L hl he (by omega) with ⟨a, b, c, r, rfl, _, hr⟩ | ⟨_, _, h3, _⟩
     ·exact hno r (fun x hx => hl x (by simp [hx])) hr
     ·exact hno [] (by simp [Byt]) (by rw [h3]; rfl)

theorem decode_any (s : ByteArray) (hs : s.size ≤ 140737488351232) : ∃ r ok, radix_Decode.f (s.size + 1) s = some (r, ok) ∧ DecTold (bytesOf s) [] r ok := by
 unfold radix_Decode.f
 by_cases h4 : (s.size : Int) % 4 = 0
 ·rw [if_pos h4]
  have hn : (bytesOf s).length = 4 * (s.size / 4) := by rw [bytesOf_length]; omega
  have := decode_l0 (s.size / 4) (bytesOf s) (bytesOf_byt s) hn (s.size + 1) [] (by omega) (by simp; omega)
  rwa [strOfNums_bytesOf] at this
 ·rw [if_neg h4]
  refine ⟨[], false, rfl, .inr ⟨rfl, rfl, fun l _ he => ?_⟩⟩
  have := congrArg List.length he
  rw [enc_length, bytesOf_length] at this
  omega
theorem decode_up (s : ByteArray) (k : Nat) (x : List Int × Bool) (h : radix_Decode.f k s = some x) (d : Nat) : radix_Decode.f (k + d) s = some x := by
 induction d with
 | zero => exact h
 | succ d ih => exact radix_Decode.mono _ _ _ ih
theorem decode_enc (l : List Int) (h : Byt l) (hl : l.length ≤ 1000000) (k : Nat) (hk : (enc l).length < k) : radix_Decode.f k (strOfNums (enc l)) = some (l, true) := by
 have hlen := enc_length l
 obtain ⟨r, ok, h1, h2⟩ := decode_any (strOfNums (enc l)) (by rw [strOfNums_size]; omega)
 rw [strOfNums_size] at h1
 rw [bytesOf_strOfNums _ (enc_range l)] at h2
 rcases h2 with ⟨rfl, m, hm, he, rfl⟩ | ⟨_, _, hno⟩
 ·have := enc_inj _ l hm h he
  rw [this] at h1
  have h3 := decode_up _ _ _ h1 (k - ((enc l).length + 1))
  rw [show (enc l).length + 1 + (k - ((enc l).length + 1)) = k by omega] at h3
  simpa using h3
 ·exact absurd rfl (hno l h)

end Go.Proofs.YtcbmjmphicfgpaaGreatDoor.Rad
end

section
set_option linter.unusedVariables false
namespace Go.Proofs.YtcbmjmphicfgpaaGreatDoor.Tlv
open Go.Proofs.YtcbmjmphicfgpaaGreatDoor.PT

abbrev T := S51
theorem infoNode : (Tryz.prog.info? 51).map (fun i => (i.zero, i.size, i.bytes)) = some (some (.agg #[(.int .i64 0), (.slice none 0 0), (.slice none 0 0)]), 3, 56) := by kernel_rfl
def holdsB (tag : Int) : Bool := decide (0 ≤ tag) && decide (tag / 32 % 2 = 1)
def isTagB (n : Int) : Bool := decide (0 ≤ n) && decide (n ≤ 255) && decide (n % 32 ≠ 31)
def head (tag n : Int) : List Int := if n < 128 then [tag % 256, n % 256] else if n < 256 then [tag % 256, 129, n % 256] else [tag % 256, 130, n / 256 % 256, n % 256]
def headLen (n : Int) : Int := if n < 128 then 2 else if n < 256 then 3 else 4
mutual
def sizeT : T → Int
 | ⟨tag, body, kids⟩ => if holdsB tag = true then sizeL kids + headLen (sizeL kids) else (body.length : Int) + headLen body.length
def sizeL : List T → Int
 | [] => 0
 | t :: l => sizeT t + sizeL l
end
mutual
def manyT : T → Int
 | ⟨tag, body, kids⟩ => if holdsB tag = true then manyL kids + 1 else 1
def manyL : List T → Int
 | [] => 0
 | t :: l => manyT t + manyL l
end
mutual
def deepT : T → Int
 | ⟨tag, body, kids⟩ => if holdsB tag = true then deepL kids + 1 else 1
def deepL : List T → Int
 | [] => 0
 | t :: l => max (deepT t) (deepL l)
end
mutual
def rightT : T → Bool
 | ⟨tag, body, kids⟩ => isTagB tag && (if holdsB tag = true then decide (body = []) else decide (kids = [])) && rightL kids
def rightL : List T → Bool
 | [] => true
 | t :: l => rightT t && rightL l
end
mutual
def encT : T → List Int
 | ⟨tag, body, kids⟩ => if holdsB tag = true then head tag (sizeL kids) ++ encL kids else head tag body.length ++ body
def encL : List T → List Int
 | [] => []
 | t :: l => encT t ++ encL l
end

inductive Res (α : Type) where
 | err (e : Int)
 | ok (a : α)
def lenP (short : Int) : List Int → Res (Int × List Int)
 | [] => .err short
 | x :: r => if x = 129 then (match r with
  | [] => .err short
  | y :: r => if 128 ≤ y then .ok (y, r) else .err 2)
  else if x = 130 then (match r with
   | y :: z :: r => if 256 ≤ y * 256 + z then .ok (y * 256 + z, r) else .err 2
   | _ => .err short)
  else if x < 128 then .ok (x, r) else .err 2
mutual
def elemP : Nat → Int → Int → List Int → Res (T × List Int)
 | 0, _, _, _ => .err 0
 | _ + 1, _, short, [] => .err short
 | n + 1, deep, short, tag :: r => if isTagB tag = true then (match lenP short r with
  | .err e => .err e
  | .ok (m, r2) => if (r2.length : Int) < m then .err short else if 32 ≤ deep then .err 4 else
   if holdsB tag = true then (match kidsP n (deep + 1) (r2.take m.toNat) with
    | .err e => .err e
    | .ok l => .ok (⟨tag, [], l⟩, r2.drop m.toNat))
   else .ok (⟨tag, r2.take m.toNat, []⟩, r2.drop m.toNat))
  else .err 2
def kidsP : Nat → Int → List Int → Res (List T)
 | 0, _, _ => .err 0
 | _ + 1, _, [] => .ok []
 | n + 1, deep, x :: b => match elemP n deep 2 (x :: b) with
  | .err e => .err e
  | .ok (t, r) => match kidsP n deep r with
   | .err e => .err e
   | .ok l => .ok (t :: l)
end

theorem lenP_ok {short : Int} {b r : List Int} {m : Int} (hb : ∀ x ∈ b, 0 ≤ x ∧ x < 256) (h : lenP short b = .ok (m, r)) (tag : Int) (ht : 0 ≤ tag ∧ tag < 256) :
 0 ≤ m ∧ m < 65536 ∧ tag :: b = head tag m ++ r := by
 cases b with
 | nil => simp [lenP] at h
 | cons x b =>
  have hx := hb x List.mem_cons_self
  unfold lenP at h
  dsimp only at h
  by_cases h1 : x = 129
  ·rw [if_pos h1] at h
   cases b with
   | nil => simp at h
   | cons y b =>
    have hy := hb y (by simp)
    simp only at h
    by_cases h2 : 128 ≤ y
    ·rw [if_pos h2] at h
     injection h with h
     injection h with h3 h4
     subst h3 h4
     refine ⟨by omega, by omega, ?_⟩
     unfold head
     rw [if_neg (by omega), if_pos (by omega), Int.emod_eq_of_lt ht.1 ht.2, Int.emod_eq_of_lt hy.1 hy.2, h1]
     rfl
    ·rw [if_neg h2] at h; cases h
  ·rw [if_neg h1] at h
   by_cases h2 : x = 130
   ·rw [if_pos h2] at h
    cases b with
    | nil => simp at h
    | cons y b =>
     cases b with
     | nil => simp at h
     | cons z b =>
      have hy := hb y (by simp)
      have hz := hb z (by simp)
      simp only at h
      by_cases h3 : 256 ≤ y * 256 + z
      ·rw [if_pos h3] at h
       injection h with h
       injection h with h4 h5
       subst h4 h5
       refine ⟨by omega, by omega, ?_⟩
       unfold head
       have e1 : (y * 256 + z) / 256 % 256 = y := by omega
       have e2 : (y * 256 + z) % 256 = z := by omega
       rw [if_neg (by omega), if_neg (by omega), Int.emod_eq_of_lt ht.1 ht.2, e1, e2, h2]
       rfl
      ·rw [if_neg h3] at h; cases h
   ·rw [if_neg h2] at h
    by_cases h3 : x < 128
    ·rw [if_pos h3] at h
     injection h with h
     injection h with h4 h5
     subst h4 h5
     refine ⟨by omega, by omega, ?_⟩
     unfold head
     rw [if_pos h3, Int.emod_eq_of_lt ht.1 ht.2, Int.emod_eq_of_lt hx.1 hx.2]
     rfl
    ·rw [if_neg h3] at h; cases h
theorem head_length (tag n : Int) : ((head tag n).length : Int) = headLen n := by
 unfold head headLen
 split
 ·rfl
 ·split <;> rfl
theorem isTag_range {n : Int} (h : isTagB n = true) : 0 ≤ n ∧ n < 256 := by
 unfold isTagB at h
 simp at h
 omega

mutual
/-- What is read, laid again, is what was there. -/
theorem elemP_ok : ∀ (n : Nat) (deep short : Int) (b : List Int) (t : T) (r : List Int), (∀ x ∈ b, 0 ≤ x ∧ x < 256) → elemP n deep short b = .ok (t, r) →
 b = encT t ++ r ∧ rightT t = true ∧ sizeT t = ((encT t).length : Int) ∧ deepT t ≤ 32 - deep
 | 0, _, _, _, _, _, _, h => by simp [elemP] at h
 | _ + 1, _, _, [], _, _, _, h => by simp [elemP] at h
 | n + 1, deep, short, tag :: b, t, r, hb, h => by
  unfold elemP at h
  by_cases h1 : isTagB tag = true
  ·rw [if_pos h1] at h
   have ht := isTag_range h1
   cases hl : lenP short b with
   | err e => rw [hl] at h; cases h
   | ok p =>
    obtain ⟨m, r2⟩ := p
    rw [hl] at h
    obtain ⟨m0, m1, hm⟩ := lenP_ok (fun x hx => hb x (List.mem_cons_of_mem _ hx)) hl tag ht
    simp only at h
    by_cases h2 : (r2.length : Int) < m
    ·rw [if_pos h2] at h; cases h
    ·rw [if_neg h2] at h
     by_cases h3 : 32 ≤ deep
     ·rw [if_pos h3] at h; cases h
     ·rw [if_neg h3] at h
      have hr2 : ∀ x ∈ r2, 0 ≤ x ∧ x < 256 := fun x hx => hb x (by rw [hm]; exact List.mem_append_right _ hx)
      have hln : ((r2.take m.toNat).length : Int) = m := by simp; omega
      by_cases h4 : holdsB tag = true
      ·rw [if_pos h4] at h
       cases hk : kidsP n (deep + 1) (r2.take m.toNat) with
       | err e => rw [hk] at h; cases h
       | ok l =>
        rw [hk] at h
        injection h with h
        injection h with h5 h6
        subst h5 h6
        obtain ⟨k1, k2, k3, k4⟩ := kidsP_ok n (deep + 1) (r2.take m.toNat) l (fun x hx => hr2 x (List.mem_of_mem_take hx)) hk
        have hsz : sizeL l = m := by rw [k3, ← k1, hln]
        refine ⟨?_, ?_, ?_, ?_⟩
        ·rw [encT, if_pos h4, hsz, ← k1, List.append_assoc, List.take_append_drop, hm]
        ·rw [rightT, h1, if_pos h4, k2]; rfl
        ·rw [sizeT, if_pos h4, encT, if_pos h4, List.length_append, Int.natCast_add, head_length, ← k3, Int.add_comm]
        ·rw [deepT, if_pos h4]; omega
      ·rw [if_neg h4] at h
       injection h with h
       injection h with h5 h6
       subst h5 h6
       refine ⟨?_, ?_, ?_, ?_⟩
       ·rw [encT, if_neg h4, hln, List.append_assoc, List.take_append_drop, hm]
       ·rw [rightT, h1, if_neg h4]; rfl
       ·rw [sizeT, if_neg h4, encT, if_neg h4, List.length_append, Int.natCast_add, head_length, Int.add_comm]
       ·rw [deepT, if_neg h4]; omega
  ·rw [if_neg h1] at h; cases h
theorem kidsP_ok : ∀ (n : Nat) (deep : Int) (b : List Int) (l : List T), (∀ x ∈ b, 0 ≤ x ∧ x < 256) → kidsP n deep b = .ok l →
 b = encL l ∧ rightL l = true ∧ sizeL l = ((encL l).length : Int) ∧ deepL l ≤ max 0 (32 - deep)
 | 0, _, _, _, _, h => by simp [kidsP] at h
 | _ + 1, deep, [], l, _, h => by
  simp [kidsP] at h
  subst h
  refine ⟨rfl, rfl, rfl, ?_⟩
  show (0 : Int) ≤ _
  omega
 | n + 1, deep, x :: b, l, hb, h => by
  unfold kidsP at h
  cases he : elemP n deep 2 (x :: b) with
  | err e => rw [he] at h; cases h
  | ok p =>
   obtain ⟨t, r⟩ := p
   rw [he] at h
   simp only at h
   obtain ⟨e1, e2, e3, e4⟩ := elemP_ok n deep 2 (x :: b) t r hb he
   have hr : ∀ y ∈ r, 0 ≤ y ∧ y < 256 := fun y hy => hb y (by rw [e1]; exact List.mem_append_right _ hy)
   cases hk : kidsP n deep r with
   | err e => rw [hk] at h; cases h
   | ok l2 =>
    rw [hk] at h
    injection h with h
    subst h
    obtain ⟨k1, k2, k3, k4⟩ := kidsP_ok n deep r l2 hr hk
    refine ⟨?_, ?_, ?_, ?_⟩
    ·rw [encL, ← k1, e1]
    ·rw [rightL, e2, k2]; rfl
    ·rw [sizeL, encL, List.length_append, Int.natCast_add, e3, k3]
    ·rw [deepL]; omega
end

end Go.Proofs.YtcbmjmphicfgpaaGreatDoor.Tlv
end

section
set_option linter.unusedVariables false
namespace Go.Proofs.YtcbmjmphicfgpaaGreatDoor.Tlv
open Go.RowKit Go.Proofs.YtcbmjmphicfgpaaGreatDoorW.PrintWords Go.Proofs.YtcbmjmphicfgpaaGreatDoorW.PrintLast Go.Proofs.YtcbmjmphicfgpaaGreatDoorW.PrintMore Go.Proofs.YtcbmjmphicfgpaaGreatDoor.PT

/-- What a panic with an error's number leaves. -/
def gone (e : Int) : Ending := .panicked [{ v := .iface 23 (.int .i64 e), recovered := false }]

theorem must_yes (e : Int) (w : World) : Calls Tryz.prog 81 #[.bool true, .int .i64 e] w fun e w' => e = .returned (.tuple #[]) ∧ w' = w := by
 have hnot : ∀ (x : Bool) (w : World), (Op.unary .not (.bool x)).run Tryz.prog w = .ok (.bool (!x)) w := fun _ _ => rfl
 go_enter Tryz.func81, Tryz.ntmps81
 go_wp2
 go_end0
 exact ⟨rfl, rfl⟩
theorem must_no (e : Int) (w : World) : Calls Tryz.prog 81 #[.bool false, .int .i64 e] w fun e' w' => e' = gone e ∧ w' = w := by
 have hnot : ∀ (x : Bool) (w : World), (Op.unary .not (.bool x)).run Tryz.prog w = .ok (.bool (!x)) w := fun _ _ => rfl
 go_enter Tryz.func81, Tryz.ntmps81
 go_wp2
 exact ⟨rfl, rfl, rfl⟩


/-- A reader: its bytes, and what it gives up for. -/
def RdAt (w : World) (g : Nat) (A : Option Addr) (n c : Nat) (sh : Int) : Prop := w.heap[g]? = some (.cells #[.slice A n c, .int .i64 sh] 102 (0, 0))
theorem RdAt.c0 {w : World} {g : Nat} {A : Option Addr} {n c : Nat} {sh : Int} (h : RdAt w g A n c sh) : w.cell? ⟨g, 0, none⟩ = some (.slice A n c) := by rw [Lib.cell_of_heap h]; rfl
theorem RdAt.c1 {w : World} {g : Nat} {A : Option Addr} {n c : Nat} {sh : Int} (h : RdAt w g A n c sh) : w.cell? ⟨g, 1, none⟩ = some (.int .i64 sh) := by rw [Lib.cell_of_heap h]; rfl
theorem RdAt.f0 {w : World} {g : Nat} {A : Option Addr} {n c : Nat} {sh : Int} (h : RdAt w g A n c sh) (j : Nat) : w.frozen? ⟨g, j, none⟩ = false := Lib.frozen_of_heap h j
theorem RdAt.set {w : World} {g : Nat} {A A2 : Option Addr} {n c n2 c2 : Nat} {sh : Int} (h : RdAt w g A n c sh) : RdAt (w.setCell ⟨g, 0, none⟩ (.slice A2 n2 c2)) g A2 n2 c2 sh := heap_setCell_same w g 0 _ _ _ h
theorem infoByte : (Tryz.prog.info? 5).map (fun i => (i.zero, i.size, i.bytes)) = some (some (.int .u8 0), 1, 1) := by kernel_rfl

set_option maxHeartbeats 1000000 in
set_option maxRecDepth 100000 in
theorem take_yes (g : Nat) (A : Option Addr) (c : Nat) (b : List Int) (sh : Int) (n : Nat) (w : World) (hg : RdAt w g A b.length c sh) (hc : b.length ≤ c) (hn : n ≤ b.length) (hb : b.length ≤ 1000000000) :
 Calls Tryz.prog 117 #[.pointer (some ⟨g, 0, none⟩), .int .i64 n] w fun e w' => ∃ A2 : Option Addr, e = .returned (.slice A n c) ∧ w' = w.setCell ⟨g, 0, none⟩ (.slice A2 (b.drop n).length (c - n)) ∧ (b.drop n).length ≤ c - n ∧ ∀ W : World, ReadsInt W .u8 A b.length b → ReadsInt W .u8 A2 (b.drop n).length (b.drop n) := by
 obtain ⟨i0, hi, hz0, hz1, hz2⟩ := info_parts infoByte
 obtain ⟨A2, hcut, hcr, hcc⟩ := print_cut_int (P := Tryz.prog) (k := .u8) 29 5 Tryz.underlying29 hi hz1 A c b (n : Int) (by omega) (by omega) hc
 simp only [Int.toNat_natCast] at hcut hcr hcc
 have c0 := hg.c0
 have c1 := hg.c1
 have f0 := hg.f0 0
 have hd : decide ((b.length : Int) < (n : Int)) = false := decide_eq_false (by omega)
 have HCR := Lib.hid hcr
 have HCC := Lib.hid hcc
 clear hcr hcc hi hz0 hz1 hz2
 go_enter Tryz.func117, Tryz.ntmps117
 go_wp2
 go_ret
 exact ⟨A2, rfl, by rw [List.length_drop], HCC.out, HCR.out⟩

set_option maxHeartbeats 1000000 in
set_option maxRecDepth 100000 in
theorem take_no (g : Nat) (A : Option Addr) (c : Nat) (b : List Int) (sh : Int) (n : Int) (w : World) (hg : RdAt w g A b.length c sh) (hn : (b.length : Int) < n) :
 Calls Tryz.prog 117 #[.pointer (some ⟨g, 0, none⟩), .int .i64 n] w fun e w' => e = gone sh ∧ w' = w := by
 have c0 := hg.c0
 have c1 := hg.c1
 have f0 := hg.f0 0
 have hd : decide ((b.length : Int) < n) = true := decide_eq_true (by omega)
 clear hn
 go_enter Tryz.func117, Tryz.ntmps117
 go_wp2
 exact ⟨rfl, rfl, rfl⟩

end Go.Proofs.YtcbmjmphicfgpaaGreatDoor.Tlv
end

section
set_option linter.unusedVariables false
namespace Go.Proofs.YtcbmjmphicfgpaaGreatDoor.Tlv
open Go.RowKit Go.Proofs.YtcbmjmphicfgpaaGreatDoorW.PrintWords Go.Proofs.YtcbmjmphicfgpaaGreatDoorW.PrintLast Go.Proofs.YtcbmjmphicfgpaaGreatDoorW.PrintMore Go.Proofs.YtcbmjmphicfgpaaGreatDoor.PT

theorem cellAt {w0 w : World} {A : Option Addr} {b : List Int} (h : ReadsInt w0 .u8 A b.length b) (hB : Below w0.heap.size w0 w) (i : Nat) (hi : i < b.length) : ∃ ad, A = some ad ∧ w.cell? (ad.add i) = some (.int .u8 (b.getD i 0)) := by
 obtain ⟨ad, e1, e2⟩ := h.2.2 (by omega)
 have h3 := e2 i hi
 exact ⟨ad, e1, (hB.cell (World.block_lt_of_cell? w0 _ h3)).trans h3⟩
theorem add_zero' (ad : Addr) : ad.add 0 = ad := by
 obtain ⟨bl, off, sp⟩ := ad
 unfold Addr.add
 cases sp <;> simp
theorem add_field' (ad : Addr) (j : Nat) (h : 0 < j) : (⟨ad.block, ad.off + j, none⟩ : Addr) = ad.add j := by
 obtain ⟨bl, off, sp⟩ := ad
 unfold Addr.add
 rw [if_neg (by omega)]
theorem cellAt0 {w0 w : World} {A : Option Addr} {x : Int} {b : List Int} (h : ReadsInt w0 .u8 A (x :: b).length (x :: b)) (hB : Below w0.heap.size w0 w) : ∃ ad, A = some ad ∧ w.cell? ad = some (.int .u8 x) := by
 obtain ⟨ad, e, q⟩ := cellAt h hB 0 (by simp)
 rw [add_zero'] at q
 exact ⟨ad, e, q⟩
theorem below_put {w0 w : World} {g : Nat} (hB : Below w0.heap.size w0 w) (hg : w0.heap.size ≤ g) (v : Value) : Below w0.heap.size w0 (w.setCell ⟨g, 0, none⟩ v) := Below.setCell hB (p := ⟨g, 0, none⟩) hg _
theorem grown_trans {a b c : World} {r : Option Nat} (h1 : a.grownBy b r) (h2 : b.grownBy c r) : a.grownBy c r :=
 ⟨h2.os.trans h1.os, h2.tape.trans h1.tape, h2.output.trans h1.output, Nat.le_trans h1.size h2.size, fun k hk hne => (h2.block k (Nat.lt_of_lt_of_le hk h1.size) hne).trans (h1.block k hk hne)⟩
theorem grown_put {w W : World} {g : Nat} (h : w.grownBy W (some g)) (v : Value) : w.grownBy (W.setCell ⟨g, 0, none⟩ v) (some g) :=
 grown_trans h ⟨rfl, rfl, rfl, by simp, fun k _ hne => heap_setCell_other W _ k v (fun e => hne (by rw [e]))⟩
theorem grown_refl (w : World) (g : Option Nat) : w.grownBy w g := ⟨rfl, rfl, rfl, Nat.le_refl _, fun _ _ _ => rfl⟩

/-- Where a reader stands behind some step: at r. -/
structure At (w0 w w' : World) (g : Nat) (sh : Int) (r : List Int) : Prop where
 ex : ∃ (A2 : Option Addr) (c2 : Nat), RdAt w' g A2 r.length c2 sh ∧ r.length ≤ c2 ∧ ReadsInt w0 .u8 A2 r.length r
 below : Below w0.heap.size w0 w'
 grown : w.grownBy w' (some g)
theorem grown_drew {w W : World} {r : Option Nat} (h : w.grownBy W r) : w.grownBy W.drew r := ⟨h.os, h.tape, h.output, h.size, h.block⟩
theorem At.drew {w0 w w' : World} {g : Nat} {sh : Int} {r : List Int} (h : At w0 w w' g sh r) : At w0 w w'.drew g sh r := ⟨h.ex, h.below.drew, grown_drew h.grown⟩
/-- What is left behind a panic: what was there, but for the reader. -/
def Lost (w0 w w' : World) (g : Nat) : Prop := Below w0.heap.size w0 w' ∧ w.grownBy w' (some g)
def LenPost (w0 w : World) (g : Nat) (sh : Int) (b : List Int) (e : Ending) (w' : World) : Prop :=
 match lenP sh b with
 | .err x => e = gone x ∧ Lost w0 w w' g
 | .ok (m, r) => e = .returned (.int .i64 m) ∧ At w0 w w' g sh r

theorem take_go (w0 : World) (g : Nat) (A : Option Addr) (c : Nat) (b : List Int) (sh : Int) (n : Nat) (w : World) (hg : RdAt w g A b.length c sh) (hc : b.length ≤ c) (hn : n ≤ b.length) (hb : b.length ≤ 1000000000)
 (hr : ReadsInt w0 .u8 A b.length b) (hB : Below w0.heap.size w0 w) (hgB : w0.heap.size ≤ g) :
 Calls Tryz.prog 117 #[.pointer (some ⟨g, 0, none⟩), .int .i64 n] w fun e w' => ∃ A2 : Option Addr, e = .returned (.slice A n c) ∧ RdAt w' g A2 (b.drop n).length (c - n) sh ∧ (b.drop n).length ≤ c - n ∧ ReadsInt w0 .u8 A2 (b.drop n).length (b.drop n) ∧ Below w0.heap.size w0 w' ∧ w.grownBy w' (some g) := by
 refine (take_yes g A c b sh n w hg hc hn hb).mono ?_
 rintro e w' ⟨A2, rfl, rfl, hc2, hr2⟩
 exact ⟨A2, rfl, hg.set, hc2, hr2 _ hr, below_put hB hgB _, grown_put (grown_refl w (some g)) _⟩

set_option maxHeartbeats 4000000 in
set_option maxRecDepth 100000 in
theorem length_walk (w0 : World) (g : Nat) (A : Option Addr) (c : Nat) (b : List Int) (sh : Int) (w : World) (hg : RdAt w g A b.length c sh) (hc : b.length ≤ c) (hb : b.length ≤ 1000000000)
 (hr : ReadsInt w0 .u8 A b.length b) (hB : Below w0.heap.size w0 w) (hgB : w0.heap.size ≤ g) (hv : ∀ x ∈ b, 0 ≤ x ∧ x < 256) :
 Calls Tryz.prog 118 #[.pointer (some ⟨g, 0, none⟩)] w (LenPost w0 w g sh b) := by
 cases b with
 | nil =>
  have hp : LenPost w0 w g sh [] = fun e w' => e = gone sh ∧ Lost w0 w w' g := by funext e w'; rfl
  rw [hp]
  go_enter Tryz.func118, Tryz.ntmps118
  go_wp2_with (fail)
  refine (take_no g A c [] sh 1 w hg (by simp)).mono ?_
  rintro e w' ⟨rfl, rfl⟩
  exact ⟨rfl, rfl, hB, grown_refl _ _⟩
 | cons x b =>
  have hx := hv x List.mem_cons_self
  have hbl : (x :: b).length = b.length + 1 := rfl
  have ht := take_go w0 g A c (x :: b) sh 1 w hg hc (by simp) hb hr hB hgB
  rw [List.drop_succ_cons, List.drop_zero] at ht
  have hcell : ∀ W : World, Below w0.heap.size w0 W → ∃ ad, A = some ad ∧ W.cell? ad = some (.int .u8 x) := fun W hW => cellAt0 hr hW
  have hb' : b.length ≤ 1000000000 := by omega
  have hv' : ∀ y ∈ b, 0 ≤ y ∧ y < 256 := fun y hy => hv y (List.mem_cons_of_mem _ hy)
  obtain ⟨x0, x1⟩ := hx
  clear hv hg hr hc hb hbl
  have HCELL := Lib.hid hcell
  clear hcell
  by_cases h1 : x = 129
  ·subst h1
   cases b with
   | nil =>
    have hp : LenPost w0 w g sh [129] = fun e w' => e = gone sh ∧ Lost w0 w w' g := by funext e w'; rfl
    rw [hp]
    clear hp
    go_enter Tryz.func118, Tryz.ntmps118
    go_wp2_with (fail)
    refine ht.mono ?_
    rintro e w1 ⟨A2, rfl, hg1, hc1, hr1, hB1, hG1⟩
    obtain ⟨ad, rfl, q0⟩ := HCELL.out w1 hB1
    go_wp2_with (fail)
    refine (take_no g A2 (c - 1) [] sh 1 w1 hg1 (by simp)).mono ?_
    rintro e w' ⟨rfl, rfl⟩
    exact ⟨rfl, rfl, hB1, hG1⟩
   | cons y b =>
    have hy := hv' y List.mem_cons_self
    obtain ⟨y0, y1⟩ := hy
    have hp1 : 128 ≤ y → LenPost w0 w g sh (129 :: y :: b) = fun e w' => e = .returned (.int .i64 y) ∧ At w0 w w' g sh b := by
     intro h
     funext e w'
     unfold LenPost lenP
     simp [h]
    have hp2 : ¬ 128 ≤ y → LenPost w0 w g sh (129 :: y :: b) = fun e w' => e = gone 2 ∧ Lost w0 w w' g := by
     intro h
     funext e w'
     unfold LenPost lenP
     simp [h]
    generalize LenPost w0 w g sh (129 :: y :: b) = PP at hp1 hp2 ⊢
    have HP1 := Lib.hid hp1
    have HP2 := Lib.hid hp2
    clear hp1 hp2
    clear hv'
    go_enter Tryz.func118, Tryz.ntmps118
    go_wp2_with (fail)
    refine ht.mono ?_
    rintro e w1 ⟨A2, rfl, hg1, hc1, hr1, hB1, hG1⟩
    obtain ⟨ad, rfl, q0⟩ := HCELL.out w1 hB1
    go_wp2_with (fail)
    refine (take_go w0 g A2 (c - 1) (y :: b) sh 1 w1 hg1 hc1 (by simp) hb' hr1 hB1 hgB).mono ?_
    rintro e w2 ⟨A3, rfl, hg2, hc2, hr2, hB2, hG2⟩
    rw [List.drop_succ_cons, List.drop_zero] at hg2 hc2 hr2
    obtain ⟨ad2, rfl, q1⟩ := cellAt0 hr1 hB2
    have HA : At w0 w w2 g sh b := ⟨⟨A3, _, hg2, hc2, hr2⟩, hB2, grown_trans hG1 hG2⟩
    clear hr1 hr2 hc1 hc2 hg1 hg2 hG1 hG2 ht HCELL
    by_cases h2 : 128 ≤ y
    ·have e2 : decide (y ≥ 128) = true := decide_eq_true h2
     go_wp2_with (fail)
     refine (must_yes 2 w2).mono ?_
     rintro e w3 ⟨rfl, rfl⟩
     go_wp2
     rw [HP1.out h2]
     exact ⟨rfl, HA⟩
    ·have e2 : decide (y ≥ 128) = false := decide_eq_false h2
     go_wp2_with (fail)
     refine (must_no 2 w2).mono ?_
     rintro e w3 ⟨rfl, rfl⟩
     refine ⟨rfl, ?_⟩
     rw [HP2.out h2]
     exact ⟨rfl, hB2, HA.grown⟩
  ·have n1 : (x == 129) = false := by simp [h1]
   by_cases h2 : x = 130
   ·subst h2
    have hl : b.length < 2 ∨ 2 ≤ b.length := by omega
    rcases hl with hl | hl
    ·have hp : LenPost w0 w g sh (130 :: b) = fun e w' => e = gone sh ∧ Lost w0 w w' g := by
      funext e w'
      match b, hl with
      | [], _ => rfl
      | [_], _ => rfl
     rw [hp]
     clear hp
     go_enter Tryz.func118, Tryz.ntmps118
     go_wp2_with (fail)
     refine ht.mono ?_
     rintro e w1 ⟨A2, rfl, hg1, hc1, hr1, hB1, hG1⟩
     obtain ⟨ad, rfl, q0⟩ := HCELL.out w1 hB1
     go_wp2_with (fail)
     refine (take_no g A2 (c - 1) b sh 2 w1 hg1 (by omega)).mono ?_
     rintro e w' ⟨rfl, rfl⟩
     exact ⟨rfl, rfl, hB1, hG1⟩
    ·match b, hl with
     | y :: z :: b, _ =>
      obtain ⟨y0, y1⟩ := hv' y List.mem_cons_self
      obtain ⟨z0, z1⟩ := hv' z (by simp)
      have hp1 : 256 ≤ y * 256 + z → LenPost w0 w g sh (130 :: y :: z :: b) = fun e w' => e = .returned (.int .i64 (y * 256 + z)) ∧ At w0 w w' g sh b := by
       intro h
       funext e w'
       unfold LenPost lenP
       simp [h]
      have hp2 : ¬ 256 ≤ y * 256 + z → LenPost w0 w g sh (130 :: y :: z :: b) = fun e w' => e = gone 2 ∧ Lost w0 w w' g := by
       intro h
       funext e w'
       unfold LenPost lenP
       simp [h]
      generalize LenPost w0 w g sh (130 :: y :: z :: b) = PP at hp1 hp2 ⊢
      have HP1 := Lib.hid hp1
      have HP2 := Lib.hid hp2
      clear hp1 hp2
      clear hv'
      have hq : Go.bits .or .i64 (y * 256) z = y * 256 + z := bits_join .i64 62 (by decide) (fun n h₀ h₁ => by rw [IntKind.wrap_i64]; omega) 8 (y * 256) z (by omega) (by omega) (by omega) (by omega) (by omega) (by omega)
      go_enter Tryz.func118, Tryz.ntmps118
      go_wp2_with (fail)
      refine ht.mono ?_
      rintro e w1 ⟨A2, rfl, hg1, hc1, hr1, hB1, hG1⟩
      obtain ⟨ad, rfl, q0⟩ := HCELL.out w1 hB1
      go_wp2_with (fail)
      refine (take_go w0 g A2 (c - 1) (y :: z :: b) sh 2 w1 hg1 hc1 (by simp) hb' hr1 hB1 hgB).mono ?_
      rintro e w2 ⟨A3, rfl, hg2, hc2, hr2, hB2, hG2⟩
      rw [List.drop_succ_cons, List.drop_succ_cons, List.drop_zero] at hg2 hc2 hr2
      obtain ⟨ad2, rfl, q1⟩ := cellAt0 hr1 hB2
      obtain ⟨ad3, e3, q2⟩ := cellAt hr1 hB2 1 (by simp)
      obtain rfl := Option.some.inj e3
      rw [show (y :: z :: b).getD 1 0 = z from rfl, ← add_field' ad2 1 (by omega)] at q2
      have HA : At w0 w w2 g sh b := ⟨⟨A3, _, hg2, hc2, hr2⟩, hB2, grown_trans hG1 hG2⟩
      clear hr1 hr2 hc1 hc2 hg1 hg2 hG1 hG2 ht HCELL e3
      by_cases h2 : 256 ≤ y * 256 + z
      ·have e2 : decide (y * 256 + z ≥ 256) = true := decide_eq_true h2
       go_wp2
       go_region
       go_wp2_with (fail)
       refine (must_yes 2 _).mono ?_
       rintro e w3 ⟨rfl, rfl⟩
       go_wp2
       rw [HP1.out h2]
       exact ⟨rfl, HA.drew⟩
      ·have e2 : decide (y * 256 + z ≥ 256) = false := decide_eq_false h2
       go_wp2
       go_region
       go_wp2_with (fail)
       refine (must_no 2 _).mono ?_
       rintro e w3 ⟨rfl, rfl⟩
       refine ⟨rfl, ?_⟩
       rw [HP2.out h2]
       exact ⟨rfl, hB2.drew, HA.drew.grown⟩
   ·have n2 : (x == 130) = false := by simp [h2]
    have hp1 : x < 128 → LenPost w0 w g sh (x :: b) = fun e w' => e = .returned (.int .i64 x) ∧ At w0 w w' g sh b := by
     intro h
     funext e w'
     unfold LenPost lenP
     simp [h, h1, h2]
    have hp2 : ¬ x < 128 → LenPost w0 w g sh (x :: b) = fun e w' => e = gone 2 ∧ Lost w0 w w' g := by
     intro h
     funext e w'
     unfold LenPost lenP
     simp [h, h1, h2]
    generalize LenPost w0 w g sh (x :: b) = PP at hp1 hp2 ⊢
    have HP1 := Lib.hid hp1
    have HP2 := Lib.hid hp2
    clear hp1 hp2
    clear hv' h1 h2
    go_enter Tryz.func118, Tryz.ntmps118
    go_wp2_with (fail)
    refine ht.mono ?_
    rintro e w1 ⟨A2, rfl, hg1, hc1, hr1, hB1, hG1⟩
    obtain ⟨ad, rfl, q0⟩ := HCELL.out w1 hB1
    have HA : At w0 w w1 g sh b := ⟨⟨A2, _, hg1, hc1, hr1⟩, hB1, hG1⟩
    clear hr1 hc1 hg1 hG1 ht HCELL
    by_cases h3 : x < 128
    ·have e2 : decide (x < 128) = true := decide_eq_true h3
     go_wp2_with (fail)
     refine (must_yes 2 w1).mono ?_
     rintro e w3 ⟨rfl, rfl⟩
     go_wp2
     rw [HP1.out h3]
     exact ⟨rfl, HA⟩
    ·have e2 : decide (x < 128) = false := decide_eq_false h3
     go_wp2_with (fail)
     refine (must_no 2 w1).mono ?_
     rintro e w3 ⟨rfl, rfl⟩
     refine ⟨rfl, ?_⟩
     rw [HP2.out h3]
     exact ⟨rfl, hB1, HA.grown⟩

end Go.Proofs.YtcbmjmphicfgpaaGreatDoor.Tlv
end

section
namespace Go.Proofs.YtcbmjmphicfgpaaGreatDoor.PT
open Go.RowKit Go.Proofs.YtcbmjmphicfgpaaGreatDoorW.PrintWords Go.Proofs.YtcbmjmphicfgpaaGreatDoorW.PrintLast Go.Proofs.YtcbmjmphicfgpaaGreatDoorW.PrintMore
attribute [local go_sem] max2_int min2_int max_two min_two max_three min_three max_four min_four   -- for this text's walks alone
set_option linter.unusedVariables false
set_option linter.unusedSimpArgs false

def tlv_isTag.f (a0 : Int) : Option (Bool) := if a0 ≥ 0 then (if a0 ≤ 255 then (some ((Go.bits .and .i64 a0 31) != 31)) else (some false)) else (some false)
set_option maxHeartbeats 8000000 in
set_option maxRecDepth 100000 in
theorem tlv_isTag.calls (a0 : Int) (r : Bool) (w : World) (h : tlv_isTag.f a0 = some r) :
 Calls Tryz.prog 105 #[.int .i64 a0] w fun e w' => e = .returned (.bool r) ∧ Drawn0 w w' := by
 have H : (if a0 ≥ 0 then (if a0 ≤ 255 then (some ((Go.bits .and .i64 a0 31) != 31)) else (some false)) else (some false)) = some r := h
 clear h
 by_cases c2 : a0 ≥ 0
 ·rw [if_pos c2] at H
  have c2b0 : decide (0 ≤ a0) = true := decide_eq_true c2
  clear c2
  by_cases c3 : a0 ≤ 255
  ·rw [if_pos c3] at H
   have c3b0 : decide (a0 ≤ 255) = true := decide_eq_true c3
   clear c3
   obtain rfl := Option.some.inj H
   go_enter Tryz.func105, Tryz.ntmps105
   go_wp2
   go_ret
   exact ⟨by first | rfl | (simp; done) | (simp [*]; done), by repeat (first | exact Drawn0.refl _ | apply Drawn0.step)⟩
  ·rw [if_neg c3] at H
   have c3b0 : decide (a0 ≤ 255) = false := decide_eq_false c3
   clear c3
   obtain rfl := Option.some.inj H
   go_enter Tryz.func105, Tryz.ntmps105
   go_wp2
   go_ret
   exact ⟨by first | rfl | (simp; done) | (simp [*]; done), by repeat (first | exact Drawn0.refl _ | apply Drawn0.step)⟩
 ·rw [if_neg c2] at H
  have c2b0 : decide (0 ≤ a0) = false := decide_eq_false c2
  clear c2
  obtain rfl := Option.some.inj H
  go_enter Tryz.func105, Tryz.ntmps105
  go_wp2
  go_ret
  exact ⟨by first | rfl | (simp; done) | (simp [*]; done), by repeat (first | exact Drawn0.refl _ | apply Drawn0.step)⟩

end Go.Proofs.YtcbmjmphicfgpaaGreatDoor.PT
end

section
namespace Go.Proofs.YtcbmjmphicfgpaaGreatDoor.PT
open Go.RowKit Go.Proofs.YtcbmjmphicfgpaaGreatDoorW.PrintWords Go.Proofs.YtcbmjmphicfgpaaGreatDoorW.PrintLast Go.Proofs.YtcbmjmphicfgpaaGreatDoorW.PrintMore
attribute [local go_sem] max2_int min2_int max_two min_two max_three min_three max_four min_four   -- for this text's walks alone
set_option linter.unusedVariables false
set_option linter.unusedSimpArgs false

def tlv_holds.f (a0 : Int) : Option (Bool) := if a0 ≥ 0 then (some ((Go.bits .and .i64 a0 32) != 0)) else (some false)
set_option maxHeartbeats 8000000 in
set_option maxRecDepth 100000 in
theorem tlv_holds.calls (a0 : Int) (r : Bool) (w : World) (h : tlv_holds.f a0 = some r) :
 Calls Tryz.prog 106 #[.int .i64 a0] w fun e w' => e = .returned (.bool r) ∧ Drawn0 w w' := by
 have H : (if a0 ≥ 0 then (some ((Go.bits .and .i64 a0 32) != 0)) else (some false)) = some r := h
 clear h
 by_cases c2 : a0 ≥ 0
 ·rw [if_pos c2] at H
  have c2b0 : decide (0 ≤ a0) = true := decide_eq_true c2
  clear c2
  obtain rfl := Option.some.inj H
  go_enter Tryz.func106, Tryz.ntmps106
  go_wp2
  go_ret
  exact ⟨by first | rfl | (simp; done) | (simp [*]; done), by repeat (first | exact Drawn0.refl _ | apply Drawn0.step)⟩
 ·rw [if_neg c2] at H
  have c2b0 : decide (0 ≤ a0) = false := decide_eq_false c2
  clear c2
  obtain rfl := Option.some.inj H
  go_enter Tryz.func106, Tryz.ntmps106
  go_wp2
  go_ret
  exact ⟨by first | rfl | (simp; done) | (simp [*]; done), by repeat (first | exact Drawn0.refl _ | apply Drawn0.step)⟩

end Go.Proofs.YtcbmjmphicfgpaaGreatDoor.PT
end
