/- radix.four: the bytes of four signs. -/
import Derived.Test.YtbbikibgfpokpaaDoorRad1
import Derived.Test.YtbbikibgfpokpaaDoorShelf
import Derived.Lib.Hide
import Derived.LoopTactic
import Derived.Deep.LoopGhost
import Derived.Deep.RegionHeld3
import Derived.Laws.BitsLemmas
import Derived.Test.YtbbikibgfpokpaaDoorWWords
import Derived.Test.YtbbikibgfpokpaaDoorWLast
import Derived.Test.YtbbikibgfpokpaaDoorWMore
set_option linter.unusedVariables false
namespace Go.Proofs.YtbbikibgfpokpaaDoor.Rad
open Go.RowKit Go.Proofs.YtbbikibgfpokpaaDoorW.PrintWords Go.Proofs.YtbbikibgfpokpaaDoorW.PrintLast Go.Proofs.YtbbikibgfpokpaaDoorW.PrintMore
attribute [local go_sem] max2_int min2_int max_two min_two

def idx (c : Int) : Int := Lib.indexByte (Lib.bytesOf tabI) c.toNat.toUInt8

theorem indexByte_tab (c : Int) (a : Nat) (w : World) (h : w.heap[a]? = some (.cells tabV 49 (0, 0))) :
    Calls Tryd.prog 22 #[.slice (some ⟨a, 0, none⟩) 64 64, .int .u8 c] w fun e w' => e = .returned (.int .i64 (idx c)) ∧ w' = w := by
  refine Tryd.bytes_IndexByte a 0 64 64 tabI c w tabI_length ?_
  intro i hi
  rw [Nat.zero_add, Lib.cell_of_heap h]
  exact tabV_get i hi

def fstep (j : Nat) (b n c : Int) : Option (Int × Int) :=
  if c = 61 ∧ 1 < j then some (Go.bits .or .i64 (wrap64 (b * 64)) 0, if (j : Int) - 1 < n then (j : Int) - 1 else n)
  else if idx c < 0 then none else if n < (j : Int) - 1 ∧ ¬ c = 61 then none else some (Go.bits .or .i64 (wrap64 (b * 64)) (idx c), n)
def fst (s : ByteArray) : Nat → Option (Int × Int)
  | 0 => some (0, 3)
  | j + 1 => (fst s j).bind fun p => fstep j p.1 p.2 (bt s j)
def fmask (n : Int) : Int := if n = 1 then 65535 else if n = 2 then 255 else 0
def fres (b n : Int) : List Int × Bool := if Go.bits .and .i64 b (fmask n) = 0 then (([(b / 65536) % 256, (b / 256) % 256, b % 256] : List Int).take n.toNat, true) else ([], false)
def four (s : ByteArray) : List Int × Bool := match fst s 4 with
  | none => ([], false)
  | some (b, n) => fres b n

theorem fst_succ {s : ByteArray} {j : Nat} {b n : Int} (h : fst s j = some (b, n)) : fst s (j + 1) = fstep j b n (bt s j) := by simp [fst, h]
theorem fst_none {s : ByteArray} {j : Nat} (h : fst s j = none) (d : Nat) : fst s (j + d) = none := by
  induction d with
  | zero => exact h
  | succ d ih => show (fst s (j + d)).bind _ = none; rw [ih]; rfl
theorem four_none {s : ByteArray} {j : Nat} (hj : j ≤ 4) (h : fst s j = none) : four s = ([], false) := by
  have := fst_none h (4 - j)
  rw [show j + (4 - j) = 4 from by omega] at this
  simp [four, this]
theorem four_some {s : ByteArray} {b n : Int} (h : fst s 4 = some (b, n)) : four s = fres b n := by simp [four, h]

theorem fstep_A {j : Nat} {b n c : Int} (h : c = 61) (h1 : 1 < j) (h2 : (j : Int) - 1 < n) : fstep j b n c = some (Go.bits .or .i64 (wrap64 (b * 64)) 0, (j : Int) - 1) := by unfold fstep; rw [if_pos ⟨h, h1⟩, if_pos h2]
theorem fstep_B {j : Nat} {b n c : Int} (h : c = 61) (h1 : 1 < j) (h2 : ¬ (j : Int) - 1 < n) : fstep j b n c = some (Go.bits .or .i64 (wrap64 (b * 64)) 0, n) := by unfold fstep; rw [if_pos ⟨h, h1⟩, if_neg h2]
theorem fstep_C {j : Nat} {b n c : Int} (h : ¬ c = 61) (h1 : 0 ≤ idx c) (h2 : ¬ n < (j : Int) - 1) : fstep j b n c = some (Go.bits .or .i64 (wrap64 (b * 64)) (idx c), n) := by
  unfold fstep; rw [if_neg (fun h3 => h h3.1), if_neg (by omega), if_neg (fun h3 => h2 h3.1)]
theorem fstep_N0 {j : Nat} {b n c : Int} (h : c = 61) (h1 : ¬ 1 < j) (h2 : idx 61 < 0) : fstep j b n c = none := by subst h; unfold fstep; rw [if_neg (fun h3 => h1 h3.2), if_pos h2]
theorem fstep_N1 {j : Nat} {b n c : Int} (h : ¬ c = 61) (h1 : idx c < 0) : fstep j b n c = none := by unfold fstep; rw [if_neg (fun h3 => h h3.1), if_pos h1]
theorem fstep_N2 {j : Nat} {b n c : Int} (h : ¬ c = 61) (h1 : 0 ≤ idx c) (h2 : n < (j : Int) - 1) : fstep j b n c = none := by unfold fstep; rw [if_neg (fun h3 => h h3.1), if_neg (by omega), if_pos ⟨h2, h⟩]

def FourPost (s : ByteArray) (w : World) (e : Ending) (w' : World) : Prop := ∃ v : Value, e = .returned (.tuple #[v, .bool (four s).2]) ∧ Kd.R (Kd.int .u8) 5 w' w.heap.size (fun _ => True) v (four s).1 ∧ Below w.heap.size w w'
theorem FourPost.no {s : ByteArray} {w w' : World} (h : four s = ([], false)) (hb : Below w.heap.size w w') : FourPost s w (.returned (.tuple #[.slice none 0 0, .bool false])) w' :=
  ⟨.slice none 0 0, by rw [h], by rw [h]; exact Kd.R_nil _ _ _ _ _, hb⟩

theorem own3 (W : World) (base : Nat) (hb : base ≤ W.heap.size) (x y z : Int) (n : Nat) (hn : n ≤ 3) :
    Kd.R (Kd.int .u8) 5 (W.alloc (.cells #[.int .u8 x, .int .u8 y, .int .u8 z] 5)) base (fun _ => True) (.slice (some ⟨W.heap.size, 0, none⟩) n 3) (([x, y, z] : List Int).take n) := by
  have hl : (([x, y, z] : List Int).take n).length = n := by simp; omega
  refine Kd.R_of_own (enc := Value.int .u8) ?_ (fun _ _ => trivial)
  rw [hl]
  exact ⟨by simp [encs]; omega, .inr ⟨W.heap.size, 3, _, rfl, hb, heap_alloc_new W _, hn, by decide, rfl, by simp [encs, List.map_take]⟩⟩
theorem FourPost.yes {s : ByteArray} {w W : World} {b n : Int} (h : four s = fres b n) (h0 : (Go.bits .and .i64 b (fmask n) != 0) = false) (m : Nat) (hn : n = (m : Int)) (hm : m ≤ 3) (hb : Below w.heap.size w W) :
    FourPost s w (.returned (.tuple #[.slice (some ⟨W.heap.size, 0, none⟩) m 3, .bool true])) (W.alloc (.cells #[.int .u8 ((b / 65536) % 256), .int .u8 ((b / 256) % 256), .int .u8 (b % 256)] 5)) := by
  have h1 : four s = (([(b / 65536) % 256, (b / 256) % 256, b % 256] : List Int).take n.toNat, true) := by
    rw [h, fres, if_pos (by simpa using h0)]
  have h2 : n.toNat = m := by omega
  rw [h2] at h1
  exact ⟨_, by rw [h1], by rw [h1]; exact own3 W _ hb.size _ _ _ m hm, hb.alloc hb.size _⟩
theorem fres_no {b n : Int} (h : (Go.bits .and .i64 b (fmask n) != 0) = true) : fres b n = ([], false) := by
  unfold fres; rw [if_neg (by simpa using h)]

set_option maxHeartbeats 4000000 in
set_option maxRecDepth 100000 in
theorem four_walk (s : ByteArray) (w : World) (hs : s.size = 4) :
    Calls Tryd.prog 17 #[.string s] w (FourPost s w) := by
  have Hs := Lib.hid hs
  clear hs
  go_enter Tryd.func17, Tryd.ntmps17
  go_wp2
  go_loopw [4, 5, 8] (fun b n k wr => ∃ (j : Nat) (bi ni : Int), j ≤ 4 ∧ k = .int .i64 j ∧ b = .int .i64 bi ∧ n = .int .i64 ni ∧ Hid (fst s j = some (bi, ni)) ∧ 1 ≤ ni ∧ ni ≤ 3 ∧ (2 ≤ j → (j : Int) - 1 ≤ 3) ∧ Below w.heap.size w wr) (fun _ _ k _ => 4 - (intOf k).toNat)
  case atStart => exact ⟨0, 0, 3, by omega, rfl, rfl, rfl, rfl, by omega, by omega, by omega, Below.refl _ _⟩
  case round =>
    rename_i wr
    obtain ⟨j, bi, ni, hj, rfl, rfl, rfl, hf, h1, h3, _, hb⟩ := hrel
    by_cases hlt : j < 4
    · have hx : j < s.size := by have := Hs.out; omega
      have hd : decide ((j : Int) < 4) = true := decide_eq_true (by omega)
      have hbt : ∀ h : j < s.size, ((s[j]'h).toNat : Int) = bt s j := fun h => by have := bt_at s j; simpa using this h
      go_wp2
      go_region_with (first | (go_at_call 18; refine (signs _).mono ?_; rintro e w1 ⟨rfl, rfl⟩) | (go_at_call 22; refine (indexByte_tab _ _ _ (by exact heap_alloc_new _ _)).mono ?_; rintro e w1 ⟨rfl, rfl⟩))
      all_goals go_wp2
      all_goals first
        | (go_ret2
           refine FourPost.no (four_none (j := j + 1) (by omega) ((fst_succ hf.out).trans ?_)) ?_
           · first | exact fstep_N0 (by assumption) (by omega) (by assumption) | exact fstep_N1 (by assumption) (by assumption) | exact fstep_N2 (by assumption) (by assumption) (by assumption)
           · repeat (first | exact hb | apply below_alloc | apply pw_below_drewN | apply below_drew1))
        | (refine ⟨⟨j + 1, _, _, by omega, by go_num, rfl, rfl, (fst_succ hf.out).trans ?_, by omega, by omega, by omega, ?_⟩, by simp [intOf]; omega⟩
           · first | exact fstep_A (by assumption) (by omega) (by assumption) | exact fstep_B (by assumption) (by omega) (by assumption) | exact fstep_C (by assumption) (by assumption) (by assumption) | (exfalso; simp_all)
           · repeat (first | exact hb | apply below_alloc | apply pw_below_drewN | apply below_drew1))
    · obtain rfl : j = 4 := by omega
      have HF := Lib.hid (four_some hf.out)
      clear hf
      have h123 : ni = 1 ∨ ni = 2 ∨ ni = 3 := by omega
      rcases h123 with rfl | rfl | rfl
      all_goals
        go_wp2
      all_goals go_ret2
      · exact FourPost.no (HF.out.trans (fres_no ‹_›)) hb
      · exact FourPost.yes HF.out ‹_› 1 rfl (by omega) hb
      · exact FourPost.no (HF.out.trans (fres_no ‹_›)) hb
      · exact FourPost.yes HF.out ‹_› 2 rfl (by omega) hb
      · exact FourPost.no (HF.out.trans (fres_no ‹_›)) hb
      · exact FourPost.yes HF.out ‹_› 3 rfl (by omega) hb

end Go.Proofs.YtbbikibgfpokpaaDoor.Rad
