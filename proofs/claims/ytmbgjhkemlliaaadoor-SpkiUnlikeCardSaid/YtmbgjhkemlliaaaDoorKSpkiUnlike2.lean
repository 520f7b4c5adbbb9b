/- Merged by a program of this session (wip/tools/pack.py). -/
import Derived.Test.YtmbgjhkemlliaaaDoorKSpkiUnlike1
import Derived.Lib.Bytes
section
namespace Go.Proofs.YtmbgjhkemlliaaaDoor.PT
open Go.RowKit Go.Proofs.YtmbgjhkemlliaaaDoorW.PrintWords Go.Proofs.YtmbgjhkemlliaaaDoorW.PrintLast Go.Proofs.YtmbgjhkemlliaaaDoorW.PrintMore
attribute [local go_sem] max2_int min2_int max_two min_two max_three min_three max_four min_four   -- for this text's walks alone
set_option linter.unusedVariables false
set_option linter.unusedSimpArgs false

mutual
def scalar_Oid.j0 : Nat → List Int → Bool → Option (Int × List Int × (List (S28)) × Int)
 | 0, _, _ => none
 | k + 1, x0, x38 => if x38 = true then (some (0, ([] : List Int), ([] : List (S28)), 1)) else (if 0 < (x0.length : Int) then (if 1 < (x0.length : Int) then ((scalar_seven.f k ([] : List Int) (IntKind.u64.wrap ((IntKind.u64.wrap ((IntKind.u64.wrap (rd x0 0)) * 40)) + (IntKind.u64.wrap (rd x0 1))))).bind fun t136 => (if 2 ≤ (x0.length : Int) then (scalar_Oid.l0 k t136 (x0.drop 2) ((x0.drop 2).length : Int) 0) else (none))) else (none)) else (none))
def scalar_Oid.l0 : Nat → List Int → List Int → Int → Int → Option (Int × List Int × (List (S28)) × Int)
 | 0, _, _, _, _ => none
 | k + 1, x4, x52, x53, x54 => if x54 < x53 then (if 0 ≤ x54 then (if x54 < (x52.length : Int) then ((scalar_seven.f k x4 (IntKind.u64.wrap (rd x52 x54))).bind fun t141 => (scalar_Oid.l0 k t141 x52 x53 (wrap64 (x54 + 1)))) else (none)) else (none)) else (some (6, x4, ([] : List (S28)), 0))
end
def scalar_Oid.f (k : Nat) (l0 : List Int) : Option (Int × List Int × (List (S28)) × Int) := if (l0.length : Int) < 2 then (scalar_Oid.j0 k l0 true) else (if (l0.length : Int) > 20 then (scalar_Oid.j0 k l0 true) else (if 0 < (l0.length : Int) then (if (rd l0 0) > 2 then (scalar_Oid.j0 k l0 true) else (if 1 < (l0.length : Int) then (if (rd l0 1) > 4294967200 then (scalar_Oid.j0 k l0 true) else (if (rd l0 0) < 2 then (scalar_Oid.j0 k l0 (decide ((rd l0 1) > 39))) else (scalar_Oid.j0 k l0 false))) else (none))) else (none)))
def scalar_Oid.T3 : Bool × List (List Nat × List Nat) := (true, [([], []), ([0], [0]), ([1], [1]), ([2], [2]), ([3], [3]), ([], []), ([5], [5]), ([6], [6]), ([7], [7]), ([4, 8], [4, 8]), ([9], [9]), ([10, 10, 0, 1, 2, 3, 4, 5, 6, 7, 8, 9, 10], [10])])
def scalar_Oid.B3 : List Nat := [0, 1, 3, 7, 15, 0, 32, 96, 224, 511, 1023, 2047]
theorem scalar_Oid.tab3 : rtab .any (opsOf Tryd.f31 3) = scalar_Oid.T3 := by kernel_rfl
theorem scalar_Oid.bits3 : waitsOk scalar_Oid.T3.2 scalar_Oid.B3 = true := by kernel_rfl
set_option maxHeartbeats 8000000 in
set_option maxRecDepth 100000 in
theorem scalar_Oid.calls (k : Nat) (A0 : Option Addr) (c0 : Nat) (l0 : List Int) (r1 : Int) (r2 : List Int) (r3 : List (S28)) (r4 : Int) (w : World) (hr0 : Kd.C (Kd.int .u32) w A0 l0.length l0) (hc0 : l0.length ≤ c0) (h : scalar_Oid.f k l0 = some (r1, r2, r3, r4)) :
 Calls Tryd.prog 31 #[.slice A0 l0.length c0] w fun e w' => ∃ v1_ v2_ : Value, e = .returned (.tuple #[.agg #[.int .i64 r1, v1_, v2_], .int .i64 r4]) ∧ Kd.R (Kd.int .u8) 5 w' w.heap.size (fun _ => True) v1_ r2 ∧ Kd.R k28 28 w' w.heap.size (fun k_ => some k_ ≠ (v1_ : Value).ownBlock) v2_ r3 ∧ Below w.heap.size w w' := by
 have hu28 := Tryd.underlying28
 have HR0 := Aside0.mk hr0
 have HC0 := Aside0.mk hc0
 clear hr0 hc0
 have HB := Aside0.mk (Below.refl w.heap.size w)
 have H : (if (l0.length : Int) < 2 then (scalar_Oid.j0 k l0 true) else (if (l0.length : Int) > 20 then (scalar_Oid.j0 k l0 true) else (if 0 < (l0.length : Int) then (if (rd l0 0) > 2 then (scalar_Oid.j0 k l0 true) else (if 1 < (l0.length : Int) then (if (rd l0 1) > 4294967200 then (scalar_Oid.j0 k l0 true) else (if (rd l0 0) < 2 then (scalar_Oid.j0 k l0 (decide ((rd l0 1) > 39))) else (scalar_Oid.j0 k l0 false))) else (none))) else (none)))) = some (r1, r2, r3, r4) := h
 clear h
 have HC2 := Aside0.mk H
 clear H
 go_enter Tryd.func31, Tryd.ntmps31
 go_upto_region 1 with (first | ((with_reducible refine gate_dst (N := 2) rfl ?_); (try (refine gate_guard (by rfl) ?_; dsimp only)); refine box_event ?hg (N := 2) ?hd (cs := #[.int .i64 0, .slice none 0 0, .slice none 0 0]) (t := 28) ?hr ?_; (case hd => rfl); (case hg => rfl); (case hr => first | (go_simp; done) | (go_simp; rfl)); intro gb129 hg w3 hbox hb; have n0_ := Aside0.mk (below_step (by repeat (first | (with_reducible first | exact HB.out | apply below_alloc | apply pw_below_drewN | apply below_drew1) | exact HB.out)) hb); have n1_ := Aside0.mk (hbox); have n2_ := Aside0.mk ((by rw [hg]; exact (below_size (by repeat (first | (with_reducible first | exact HB.out | apply below_alloc | apply pw_below_drewN | apply below_drew1) | exact HB.out))) : w.heap.size ≤ gb129)); have n3_ := Aside0.mk ((by rw [hg]; exact (below_size (by repeat (first | (with_reducible first | exact HB.out | apply below_alloc | apply pw_below_drewN | apply below_drew1) | exact HB.out))) : w.heap.size ≤ gb129)); clear HB; have HB := n0_; have BK129 := n1_; have GW129 := n2_; have GE129 := n3_; clear n0_ n1_ n2_ n3_; clear hb hbox hg))
 (try simp only [Act.put, List.setIfInBounds_toArray, List.set_cons_zero, List.set_cons_succ])
 go_cut [38] (fun v38 wc => ∃ (kq : Nat) (x38_1 : Bool), v38 = .bool x38_1 ∧ Aside0 (scalar_Oid.j0 kq l0 x38_1 = some (r1, r2, r3, r4)) ∧ Aside0 (kq ≤ k) ∧ Aside0 (wc.heap[gb129]? = some (.cells #[.int .i64 0, (.slice none 0 0), (.slice none 0 0)] 28 (0, 0))) ∧ Aside0 (Below w.heap.size w wc))
 case first =>
  have H := HC2.out
  clear HC2
  by_cases c4 : (l0.length : Int) < 2
  ·rw [if_pos c4] at H
   have c4b0 : decide ((l0.length : Int) < 2) = true := decide_eq_true c4
   have c4b1 : decide (l0.length < 2) = true := decide_eq_true (by omega)
   clear c4
   (first | rw [c4b0] | (simp only [i64_w, i32_w]; rw [c4b0]) | skip)
   have H' := Aside0.mk H
   clear H
   go_wp2
   go_meet
   case rel => exact ⟨_, (true), (by first | rfl | (simp; done) | (simp [*]; done)), H', ⟨by first | omega | exact Nat.le_refl _⟩, ⟨by (with_reducible repeat (first | refine blk_drewN ?_ _ | refine blk_drew ?_ | refine blk_alloc ?_ _)); exact BK129.out⟩, ⟨by repeat (first | (with_reducible first | exact HB.out | apply below_alloc | apply pw_below_drewN | apply below_drew1 | refine below_set ?_ GE129.out) | exact HB.out)⟩⟩
  ·rw [if_neg c4] at H
   have c4b0 : decide ((l0.length : Int) < 2) = false := decide_eq_false c4
   have c4b1 : decide (l0.length < 2) = false := decide_eq_false (by omega)
   clear c4
   (first | rw [c4b0] | (simp only [i64_w, i32_w]; rw [c4b0]) | skip)
   by_cases c5 : (l0.length : Int) > 20
   ·rw [if_pos c5] at H
    have c5b0 : decide (20 < (l0.length : Int)) = true := decide_eq_true c5
    have c5b1 : decide (20 < l0.length) = true := decide_eq_true (by omega)
    clear c5
    have H' := Aside0.mk H
    clear H
    go_wp2
    go_meet
    case rel => exact ⟨_, (true), (by first | rfl | (simp; done) | (simp [*]; done)), H', ⟨by first | omega | exact Nat.le_refl _⟩, ⟨by (with_reducible repeat (first | refine blk_drewN ?_ _ | refine blk_drew ?_ | refine blk_alloc ?_ _)); exact BK129.out⟩, ⟨by repeat (first | (with_reducible first | exact HB.out | apply below_alloc | apply pw_below_drewN | apply below_drew1 | refine below_set ?_ GE129.out) | exact HB.out)⟩⟩
   ·rw [if_neg c5] at H
    have c5b0 : decide (20 < (l0.length : Int)) = false := decide_eq_false c5
    have c5b1 : decide (20 < l0.length) = false := decide_eq_false (by omega)
    clear c5
    by_cases c6 : 0 < (l0.length : Int)
    ·rw [if_pos c6] at H
     have c6b0 : decide (0 < (l0.length : Int)) = true := decide_eq_true c6
     have c6b1 : decide (0 < l0.length) = true := decide_eq_true (by omega)
     clear c6
     by_cases c7 : (rd l0 0) > 2
     ·rw [if_pos c7] at H
      have c7b0 : decide (2 < (rd l0 0)) = true := decide_eq_true c7
      clear c7
      have H' := Aside0.mk H
      clear H
      have p130 : 0 ≤ (0 : Int) := (by omega)
      have q130 : 0 < (l0.length : Int) := of_decide_eq_true (by first | (with_reducible assumption) | assumption)
      obtain ⟨ad130, e130, hx130_0⟩ := Kd.at_int HR0.out 0 p130 q130
      cases e130
      have qi130 : (0 < l0.length) = True := eq_true (by omega)
      (try rw [show ((0 : Int)).toNat = 0 from rfl] at hx130_0)
      (try rw [Addr.add_zero'] at hx130_0)
      replace hx130_0 := (HB.out.cell (World.block_lt_of_cell? w _ hx130_0)).trans hx130_0
      replace p130 := eq_true p130
      replace q130 := eq_true q130
      go_wp2
      go_meet
      case rel => exact ⟨_, (true), (by first | rfl | (simp; done) | (simp [*]; done)), H', ⟨by first | omega | exact Nat.le_refl _⟩, ⟨by (with_reducible repeat (first | refine blk_drewN ?_ _ | refine blk_drew ?_ | refine blk_alloc ?_ _)); exact BK129.out⟩, ⟨by repeat (first | (with_reducible first | exact HB.out | apply below_alloc | apply pw_below_drewN | apply below_drew1 | refine below_set ?_ GE129.out) | exact HB.out)⟩⟩
     ·rw [if_neg c7] at H
      have c7b0 : decide (2 < (rd l0 0)) = false := decide_eq_false c7
      clear c7
      by_cases c8 : 1 < (l0.length : Int)
      ·rw [if_pos c8] at H
       have c8b0 : decide (1 < (l0.length : Int)) = true := decide_eq_true c8
       have c8b1 : decide (1 < l0.length) = true := decide_eq_true (by omega)
       clear c8
       by_cases c9 : (rd l0 1) > 4294967200
       ·rw [if_pos c9] at H
        have c9b0 : decide (4294967200 < (rd l0 1)) = true := decide_eq_true c9
        clear c9
        have H' := Aside0.mk H
        clear H
        have p130 : 0 ≤ (0 : Int) := (by omega)
        have q130 : 0 < (l0.length : Int) := of_decide_eq_true (by first | (with_reducible assumption) | assumption)
        obtain ⟨ad130, e130, hx130_0⟩ := Kd.at_int HR0.out 0 p130 q130
        cases e130
        have qi130 : (0 < l0.length) = True := eq_true (by omega)
        (try rw [show ((0 : Int)).toNat = 0 from rfl] at hx130_0)
        (try rw [Addr.add_zero'] at hx130_0)
        replace hx130_0 := (HB.out.cell (World.block_lt_of_cell? w _ hx130_0)).trans hx130_0
        replace p130 := eq_true p130
        replace q130 := eq_true q130
        have p131 : 0 ≤ (1 : Int) := (by omega)
        have q131 : 1 < (l0.length : Int) := of_decide_eq_true (by first | (with_reducible assumption) | assumption)
        obtain ⟨ad131, e131, hx131_0⟩ := Kd.at_int HR0.out 1 p131 q131
        obtain rfl : ad130 = ad131 := (by injection e131)
        (try simp only [show (1 : Int).toNat = 1 from rfl, Nat.reduceMul, Nat.reduceEqDiff, Go.Addr.add, ↓reduceIte] at hx131_0)
        have qi131 : (1 < l0.length) = True := eq_true (by omega)
        (try rw [show ((1 : Int)).toNat = 1 from rfl] at hx131_0)
        replace hx131_0 := (HB.out.cell (World.block_lt_of_cell? w _ hx131_0)).trans hx131_0
        replace p131 := eq_true p131
        replace q131 := eq_true q131
        go_wp2
        go_meet
        case rel => exact ⟨_, (true), (by first | rfl | (simp; done) | (simp [*]; done)), H', ⟨by first | omega | exact Nat.le_refl _⟩, ⟨by (with_reducible repeat (first | refine blk_drewN ?_ _ | refine blk_drew ?_ | refine blk_alloc ?_ _)); exact BK129.out⟩, ⟨by repeat (first | (with_reducible first | exact HB.out | apply below_alloc | apply pw_below_drewN | apply below_drew1 | refine below_set ?_ GE129.out) | exact HB.out)⟩⟩
       ·rw [if_neg c9] at H
        have c9b0 : decide (4294967200 < (rd l0 1)) = false := decide_eq_false c9
        clear c9
        by_cases c10 : (rd l0 0) < 2
        ·rw [if_pos c10] at H
         have c10b0 : decide ((rd l0 0) < 2) = true := decide_eq_true c10
         clear c10
         have H' := Aside0.mk H
         clear H
         have p130 : 0 ≤ (0 : Int) := (by omega)
         have q130 : 0 < (l0.length : Int) := of_decide_eq_true (by first | (with_reducible assumption) | assumption)
         obtain ⟨ad130, e130, hx130_0⟩ := Kd.at_int HR0.out 0 p130 q130
         cases e130
         have qi130 : (0 < l0.length) = True := eq_true (by omega)
         (try rw [show ((0 : Int)).toNat = 0 from rfl] at hx130_0)
         (try rw [Addr.add_zero'] at hx130_0)
         replace hx130_0 := (HB.out.cell (World.block_lt_of_cell? w _ hx130_0)).trans hx130_0
         replace p130 := eq_true p130
         replace q130 := eq_true q130
         have p131 : 0 ≤ (1 : Int) := (by omega)
         have q131 : 1 < (l0.length : Int) := of_decide_eq_true (by first | (with_reducible assumption) | assumption)
         obtain ⟨ad131, e131, hx131_0⟩ := Kd.at_int HR0.out 1 p131 q131
         obtain rfl : ad130 = ad131 := (by injection e131)
         (try simp only [show (1 : Int).toNat = 1 from rfl, Nat.reduceMul, Nat.reduceEqDiff, Go.Addr.add, ↓reduceIte] at hx131_0)
         have qi131 : (1 < l0.length) = True := eq_true (by omega)
         (try rw [show ((1 : Int)).toNat = 1 from rfl] at hx131_0)
         replace hx131_0 := (HB.out.cell (World.block_lt_of_cell? w _ hx131_0)).trans hx131_0
         replace p131 := eq_true p131
         replace q131 := eq_true q131
         have p132 : 0 ≤ (0 : Int) := (by omega)
         have q132 : 0 < (l0.length : Int) := of_decide_eq_true (by first | (with_reducible assumption) | assumption)
         obtain ⟨ad132, e132, hx132_0⟩ := Kd.at_int HR0.out 0 p132 q132
         obtain rfl : ad130 = ad132 := (by injection e132)
         have qi132 : (0 < l0.length) = True := eq_true (by omega)
         (try rw [show ((0 : Int)).toNat = 0 from rfl] at hx132_0)
         (try rw [Addr.add_zero'] at hx132_0)
         replace hx132_0 := (HB.out.cell (World.block_lt_of_cell? w _ hx132_0)).trans hx132_0
         replace p132 := eq_true p132
         replace q132 := eq_true q132
         have p133 : 0 ≤ (1 : Int) := (by omega)
         have q133 : 1 < (l0.length : Int) := of_decide_eq_true (by first | (with_reducible assumption) | assumption)
         obtain ⟨ad133, e133, hx133_0⟩ := Kd.at_int HR0.out 1 p133 q133
         obtain rfl : ad130 = ad133 := (by injection e133)
         (try simp only [show (1 : Int).toNat = 1 from rfl, Nat.reduceMul, Nat.reduceEqDiff, Go.Addr.add, ↓reduceIte] at hx133_0)
         have qi133 : (1 < l0.length) = True := eq_true (by omega)
         (try rw [show ((1 : Int)).toNat = 1 from rfl] at hx133_0)
         replace hx133_0 := (HB.out.cell (World.block_lt_of_cell? w _ hx133_0)).trans hx133_0
         replace p133 := eq_true p133
         replace q133 := eq_true q133
         go_wp2
         go_meet
         case rel => exact ⟨_, (decide ((rd l0 1) > 39)), (by first | rfl | (simp; done) | (simp [*]; done)), H', ⟨by first | omega | exact Nat.le_refl _⟩, ⟨by (with_reducible repeat (first | refine blk_drewN ?_ _ | refine blk_drew ?_ | refine blk_alloc ?_ _)); exact BK129.out⟩, ⟨by repeat (first | (with_reducible first | exact HB.out | apply below_alloc | apply pw_below_drewN | apply below_drew1 | refine below_set ?_ GE129.out) | exact HB.out)⟩⟩
        ·rw [if_neg c10] at H
         have c10b0 : decide ((rd l0 0) < 2) = false := decide_eq_false c10
         clear c10
         have H' := Aside0.mk H
         clear H
         have p130 : 0 ≤ (0 : Int) := (by omega)
         have q130 : 0 < (l0.length : Int) := of_decide_eq_true (by first | (with_reducible assumption) | assumption)
         obtain ⟨ad130, e130, hx130_0⟩ := Kd.at_int HR0.out 0 p130 q130
         cases e130
         have qi130 : (0 < l0.length) = True := eq_true (by omega)
         (try rw [show ((0 : Int)).toNat = 0 from rfl] at hx130_0)
         (try rw [Addr.add_zero'] at hx130_0)
         replace hx130_0 := (HB.out.cell (World.block_lt_of_cell? w _ hx130_0)).trans hx130_0
         replace p130 := eq_true p130
         replace q130 := eq_true q130
         have p131 : 0 ≤ (1 : Int) := (by omega)
         have q131 : 1 < (l0.length : Int) := of_decide_eq_true (by first | (with_reducible assumption) | assumption)
         obtain ⟨ad131, e131, hx131_0⟩ := Kd.at_int HR0.out 1 p131 q131
         obtain rfl : ad130 = ad131 := (by injection e131)
         (try simp only [show (1 : Int).toNat = 1 from rfl, Nat.reduceMul, Nat.reduceEqDiff, Go.Addr.add, ↓reduceIte] at hx131_0)
         have qi131 : (1 < l0.length) = True := eq_true (by omega)
         (try rw [show ((1 : Int)).toNat = 1 from rfl] at hx131_0)
         replace hx131_0 := (HB.out.cell (World.block_lt_of_cell? w _ hx131_0)).trans hx131_0
         replace p131 := eq_true p131
         replace q131 := eq_true q131
         have p132 : 0 ≤ (0 : Int) := (by omega)
         have q132 : 0 < (l0.length : Int) := of_decide_eq_true (by first | (with_reducible assumption) | assumption)
         obtain ⟨ad132, e132, hx132_0⟩ := Kd.at_int HR0.out 0 p132 q132
         obtain rfl : ad130 = ad132 := (by injection e132)
         have qi132 : (0 < l0.length) = True := eq_true (by omega)
         (try rw [show ((0 : Int)).toNat = 0 from rfl] at hx132_0)
         (try rw [Addr.add_zero'] at hx132_0)
         replace hx132_0 := (HB.out.cell (World.block_lt_of_cell? w _ hx132_0)).trans hx132_0
         replace p132 := eq_true p132
         replace q132 := eq_true q132
         go_wp2
         go_meet
         case rel => exact ⟨_, (false), (by first | rfl | (simp; done) | (simp [*]; done)), H', ⟨by first | omega | exact Nat.le_refl _⟩, ⟨by (with_reducible repeat (first | refine blk_drewN ?_ _ | refine blk_drew ?_ | refine blk_alloc ?_ _)); exact BK129.out⟩, ⟨by repeat (first | (with_reducible first | exact HB.out | apply below_alloc | apply pw_below_drewN | apply below_drew1 | refine below_set ?_ GE129.out) | exact HB.out)⟩⟩
      ·rw [if_neg c8] at H
       exact absurd H (by simp)
    ·rw [if_neg c6] at H
     exact absurd H (by simp)
 case rest =>
  clear HC2
  try clear c1
  try clear p1
  try clear q1
  try clear hx1
  try clear qi1
  try clear p2
  try clear c3
  try clear c4
  try clear c4b0
  try clear c4b1
  try clear c5
  try clear c5b0
  try clear c5b1
  try clear c6
  try clear c6b0
  try clear c6b1
  try clear c7
  try clear c7b0
  try clear c8
  try clear c8b0
  try clear c8b1
  try clear c9
  try clear c9b0
  try clear c10
  try clear c10b0
  try clear hx130_0
  try clear hx131_0
  try clear hx132_0
  try clear hx133_0
  try clear p130
  try clear p131
  try clear p132
  try clear p133
  try clear q130
  try clear q131
  try clear q132
  try clear q133
  obtain ⟨kq, x38_1, rfl, HA, HJ1, BK129, HB⟩ := hcut
  cases kq with
  | zero => exact absurd HA.out (by simp [scalar_Oid.j0])
  | succ kj1 =>
   have H := HA.out
   clear HA
   simp only [scalar_Oid.j0] at H
   by_cases c11 : x38_1 = true
   ·subst c11
    have H1 : (some (0, ([] : List Int), ([] : List (S28)), 1)) = some (r1, r2, r3, r4) := by rw [if_pos rfl] at H; exact H
    clear H
    have H := H1
    clear H1
    simp only [Option.some.injEq, Prod.mk.injEq] at H
    obtain ⟨rfl, rfl, rfl, rfl⟩ := H
    have hcz12_0 : wc.cell? ⟨gb129, 0, none⟩ = some (.int .i64 0) := (blk_cell BK129.out 0).trans rfl
    have hcz12_1 : wc.cell? ⟨gb129, 1, none⟩ = some (.slice none 0 0) := (blk_cell BK129.out 1).trans rfl
    have hcz12_2 : wc.cell? ⟨gb129, 2, none⟩ = some (.slice none 0 0) := (blk_cell BK129.out 2).trans rfl
    have hfz12_0 := blk_frozen BK129.out 0
    have hfz12_1 := blk_frozen BK129.out 1
    have hfz12_2 := blk_frozen BK129.out 2
    go_wp2
    refine bodyPost_ret (results_ct rfl _ _ gb129 28 #[.int .i64 0, .slice none 0 0, .slice none 0 0] (0, 0) _ rfl (by (with_reducible repeat (first | refine blk_drewN ?_ _ | refine blk_drew ?_ | refine blk_alloc ?_ _)); refine blk_put (cs := #[.int .i64 0, .slice none 0 0, .slice none 0 0]) ?_ 2 _ rfl; (with_reducible repeat (first | refine blk_drewN ?_ _ | refine blk_drew ?_ | refine blk_alloc ?_ _)); refine blk_put (cs := #[.int .i64 0, .slice none 0 0, .slice none 0 0]) ?_ 1 _ rfl; (with_reducible repeat (first | refine blk_drewN ?_ _ | refine blk_drew ?_ | refine blk_alloc ?_ _)); refine blk_put (cs := #[.int .i64 0, .slice none 0 0, .slice none 0 0]) ?_ 0 _ rfl; (with_reducible repeat (first | refine blk_drewN ?_ _ | refine blk_drew ?_ | refine blk_alloc ?_ _)); exact BK129.out) Tryd.underlying28 rfl (by kernel_rfl)) rfl ?_
    exact ⟨_, _, by first | rfl | (simp [errW_none, errW_some] <;> rfl) | (simp [*, errW_none, errW_some] <;> rfl), by first | exact Kd.R_nil _ _ _ _ _ | exact Kd.N_nil _ _ _ _ _ | exact Kd.V_nil _ _ _ _ _ | exact Kd.Q_nil _ _ _ _ _ | exact Kd.S_nil _ _ _ _ _, by first | exact Kd.R_nil _ _ _ _ _ | exact Kd.N_nil _ _ _ _ _ | exact Kd.V_nil _ _ _ _ _ | exact Kd.Q_nil _ _ _ _ _ | exact Kd.S_nil _ _ _ _ _, by repeat (first | (with_reducible first | exact HB.out | apply below_alloc | apply pw_below_drewN | apply below_drew1 | refine below_set ?_ GE129.out) | exact HB.out)⟩
   ·replace c11 := Bool.eq_false_iff.mpr c11
    subst c11
    have H1 : (if 0 < (l0.length : Int) then (if 1 < (l0.length : Int) then ((scalar_seven.f kj1 ([] : List Int) (IntKind.u64.wrap ((IntKind.u64.wrap ((IntKind.u64.wrap (rd l0 0)) * 40)) + (IntKind.u64.wrap (rd l0 1))))).bind fun t136 => (if 2 ≤ (l0.length : Int) then (scalar_Oid.l0 kj1 t136 (l0.drop 2) ((l0.drop 2).length : Int) 0) else (none))) else (none)) else (none)) = some (r1, r2, r3, r4) := by rw [if_neg (show ¬ (false = true) by decide)] at H; exact H
    clear H
    have H := H1
    clear H1
    by_cases c13 : 0 < (l0.length : Int)
    ·rw [if_pos c13] at H
     have c13b0 : decide (0 < (l0.length : Int)) = true := decide_eq_true c13
     have c13b1 : decide (0 < l0.length) = true := decide_eq_true (by omega)
     clear c13
     by_cases c14 : 1 < (l0.length : Int)
     ·rw [if_pos c14] at H
      have c14b0 : decide (1 < (l0.length : Int)) = true := decide_eq_true c14
      have c14b1 : decide (1 < l0.length) = true := decide_eq_true (by omega)
      clear c14
      replace H := Option.bind_eq_some_iff.mp H
      obtain ⟨t136, A150, H⟩ := H
      replace H : (if 2 ≤ (l0.length : Int) then (scalar_Oid.l0 kj1 t136 (l0.drop 2) ((l0.drop 2).length : Int) 0) else (none)) = some (r1, r2, r3, r4) := H
      have A15 := Aside0.mk A150
      clear A150
      by_cases c16 : 2 ≤ (l0.length : Int)
      ·rw [if_pos c16] at H
       have c16b0 := eq_true c16
       have c16b1 : decide (2 ≤ (l0.length : Int)) = true := decide_eq_true c16
       clear c16
       have H' := Aside0.mk H
       clear H
       try go_wp2
       have n0_ := Aside0.mk (blk_drew BK129.out)
       have n1_ := Aside0.mk (below_drew1 HB.out)
       clear BK129
       clear HB
       have BK129 := n0_
       have HB := n1_
       clear n0_ n1_
       have p134 : 0 ≤ (0 : Int) := (by omega)
       have q134 : 0 < (l0.length : Int) := of_decide_eq_true (by first | (with_reducible assumption) | assumption)
       obtain ⟨ad134, e134, hx134_0⟩ := Kd.at_int HR0.out 0 p134 q134
       have hw134_0 := hx134_0
       (try rw [show ((0 : Int)).toNat = 0 from rfl] at hw134_0)
       (try rw [show 0 * 1 = 0 from rfl] at hw134_0)
       (try rw [Addr.add_zero'] at hw134_0)
       cases e134
       have qi134 : (0 < l0.length) = True := eq_true (by omega)
       (try rw [show ((0 : Int)).toNat = 0 from rfl] at hx134_0)
       (try rw [Addr.add_zero'] at hx134_0)
       replace hx134_0 := (HB.out.cell (World.block_lt_of_cell? w _ hx134_0)).trans hx134_0
       replace p134 := eq_true p134
       replace q134 := eq_true q134
       have p135 : 0 ≤ (1 : Int) := (by omega)
       have q135 : 1 < (l0.length : Int) := of_decide_eq_true (by first | (with_reducible assumption) | assumption)
       obtain ⟨ad135, e135, hx135_0⟩ := Kd.at_int HR0.out 1 p135 q135
       have hw135_0 := hx135_0
       (try rw [show ((1 : Int)).toNat = 1 from rfl] at hw135_0)
       (try rw [show 1 * 1 = 1 from rfl] at hw135_0)
       (try simp only [Nat.reduceMul, Nat.reduceEqDiff, Go.Addr.add, ↓reduceIte] at hw135_0)
       obtain rfl : ad134 = ad135 := (by injection e135)
       (try simp only [show (1 : Int).toNat = 1 from rfl, Nat.reduceMul, Nat.reduceEqDiff, Go.Addr.add, ↓reduceIte] at hx135_0)
       have qi135 : (1 < l0.length) = True := eq_true (by omega)
       (try rw [show ((1 : Int)).toNat = 1 from rfl] at hx135_0)
       replace hx135_0 := (HB.out.cell (World.block_lt_of_cell? w _ hx135_0)).trans hx135_0
       replace p135 := eq_true p135
       replace q135 := eq_true q135
       refine start_ (n := 12) (S := fun w' => w'.cell? ad134 = some (.int .u32 (rd l0 0)) ∧ w'.cell? ⟨ad134.block, ad134.off + 1, none⟩ = some (.int .u32 (rd l0 1))) (ds := []) #[false, false, false, false, false, false, false, false, false, false, false, false] (by kernel_rfl) rfl rfl ⟨((HB.out.cell (World.block_lt_of_cell? w _ hw134_0)).trans hw134_0), ((HB.out.cell (World.block_lt_of_cell? w _ hw135_0)).trans hw135_0)⟩ (fun hHeld => ?_); refine with_tabW scalar_Oid.tab3 scalar_Oid.bits3 (fun HT_ HW_ => ?_)
       generalize wc.drew = w17 at BK129 HB hx134_0 hx135_0 hHeld ⊢
       refine pure_ (i := 0) (N := some 40) (v := ?_) (a' := ?_) #[true, false, false, false, false, false, false, false, false, false, false, false] rfl rfl (any_of HT_.out (by kernel_rfl)) (fun _ _ _ h => h) (Or.inl ⟨by rfl, ?_⟩) ?_ ?_
       rotate_left
       ·intro w'
        go_simp
        with_reducible rfl
       rotate_left
       ·simp only [Act.put, List.setIfInBounds_toArray, List.set_cons_zero, List.set_cons_succ, i64_w, i32_w]
        rfl
       refine pure_ (i := 1) (N := some 41) (v := ?_) (a' := ?_) #[true, true, false, false, false, false, false, false, false, false, false, false] rfl rfl (any_of HT_.out (by kernel_rfl)) (fun _ _ _ h => h) (Or.inl ⟨by rfl, ?_⟩) ?_ ?_
       rotate_left
       ·intro w'
        go_simp
        with_reducible rfl
       rotate_left
       ·simp only [Act.put, List.setIfInBounds_toArray, List.set_cons_zero, List.set_cons_succ, i64_w, i32_w]
        rfl
       refine pure_ (i := 5) (N := some 45) (v := ?_) (a' := ?_) #[true, true, false, false, false, true, false, false, false, false, false, false] rfl rfl (any_of HT_.out (by kernel_rfl)) (fun _ _ _ h => h) (Or.inl ⟨by rfl, ?_⟩) ?_ ?_
       rotate_left
       ·intro w'
        go_simp
        with_reducible rfl
       rotate_left
       ·simp only [Act.put, List.setIfInBounds_toArray, List.set_cons_zero, List.set_cons_succ, i64_w, i32_w]
        rfl
       refine pure_ (i := 6) (N := some 46) (v := ?_) (a' := ?_) #[true, true, false, false, false, true, true, false, false, false, false, false] rfl rfl (any_of HT_.out (by kernel_rfl)) (fun _ _ _ h => h) (Or.inl ⟨by rfl, ?_⟩) ?_ ?_
       rotate_left
       ·intro w'
        go_simp
        with_reducible rfl
       rotate_left
       ·simp only [Act.put, List.setIfInBounds_toArray, List.set_cons_zero, List.set_cons_succ, i64_w, i32_w]
        rfl
       refine take_ (i := 2) (N := some 42) (v := ?_) (a' := ?_) #[true, true, true, false, false, true, true, false, false, false, false, false] rfl rfl (take_ofW HT_.out HW_.out (by kernel_rfl)) (fun _ _ _ h => h) (Or.inl ⟨by rfl, ?_⟩) hHeld ?_ ?_
       rotate_left
       ·rintro w' ⟨s0, s1⟩
        go_simp
        with_reducible rfl
       rotate_left
       ·simp only [Act.put, List.setIfInBounds_toArray, List.set_cons_zero, List.set_cons_succ, i64_w, i32_w]
        rfl
       refine pure_ (i := 3) (N := some 43) (v := ?_) (a' := ?_) #[true, true, true, true, false, true, true, false, false, false, false, false] rfl rfl (any_of HT_.out (by kernel_rfl)) (fun _ _ _ h => h) (Or.inl ⟨by rfl, ?_⟩) ?_ ?_
       rotate_left
       ·intro w'
        go_simp
        with_reducible rfl
       rotate_left
       ·simp only [Act.put, List.setIfInBounds_toArray, List.set_cons_zero, List.set_cons_succ, i64_w, i32_w]
        rfl
       refine pure_ (i := 4) (N := some 44) (v := ?_) (a' := ?_) #[true, true, true, true, true, true, true, false, false, false, false, false] rfl rfl (any_of HT_.out (by kernel_rfl)) (fun _ _ _ h => h) (Or.inl ⟨by rfl, ?_⟩) ?_ ?_
       rotate_left
       ·intro w'
        go_simp
        with_reducible rfl
       rotate_left
       ·simp only [Act.put, List.setIfInBounds_toArray, List.set_cons_zero, List.set_cons_succ, i64_w, i32_w]
        rfl
       refine take_ (i := 7) (N := some 47) (v := ?_) (a' := ?_) #[true, true, true, true, true, true, true, true, false, false, false, false] rfl rfl (take_ofW HT_.out HW_.out (by kernel_rfl)) (fun _ _ _ h => h) (Or.inl ⟨by rfl, ?_⟩) hHeld ?_ ?_
       rotate_left
       ·rintro w' ⟨s0, s1⟩
        go_simp
        with_reducible rfl
       rotate_left
       ·simp only [Act.put, List.setIfInBounds_toArray, List.set_cons_zero, List.set_cons_succ, i64_w, i32_w]
        rfl
       refine pure_ (i := 8) (N := some 48) (v := ?_) (a' := ?_) #[true, true, true, true, true, true, true, true, true, false, false, false] rfl rfl (any_of HT_.out (by kernel_rfl)) (fun _ _ _ h => h) (Or.inl ⟨by rfl, ?_⟩) ?_ ?_
       rotate_left
       ·intro w'
        go_simp
        with_reducible rfl
       rotate_left
       ·simp only [Act.put, List.setIfInBounds_toArray, List.set_cons_zero, List.set_cons_succ, i64_w, i32_w]
        rfl
       refine pure_ (i := 9) (N := some 49) (v := ?_) (a' := ?_) #[true, true, true, true, true, true, true, true, true, true, false, false] rfl rfl (any_of HT_.out (by kernel_rfl)) (fun _ _ _ h => h) (Or.inl ⟨by rfl, ?_⟩) ?_ ?_
       rotate_left
       ·intro w'
        go_simp
        with_reducible rfl
       rotate_left
       ·simp only [Act.put, List.setIfInBounds_toArray, List.set_cons_zero, List.set_cons_succ, i64_w, i32_w]
        rfl
       refine one_ (i := 10) (N := some 50) #[true, true, true, true, true, true, true, true, true, true, true, false] rfl rfl (one_of HT_.out (by kernel_rfl)) (by decide) (fun K hK => ?_)
       refine goes_ Tryd.func53 (by kernel_rfl) rfl #[.slice none 0 0, .int .u64 (IntKind.u64.wrap ((IntKind.u64.wrap ((IntKind.u64.wrap (rd l0 0)) * 40)) + (IntKind.u64.wrap (rd l0 1))))] (by rfl) rfl rfl (by (try simp only [List.map_toArray, List.map_cons, List.map_nil]); first | done | rfl | (simp only [List.length_drop, List.length_take]; rfl)) ?_
       refine (scalar_seven.calls kj1 (fun k_ => some k_ = (.slice none 0 0 : Value).ownBlock) (.slice none 0 0) ([] : List Int) (IntKind.u64.wrap ((IntKind.u64.wrap ((IntKind.u64.wrap (rd l0 0)) * 40)) + (IntKind.u64.wrap (rd l0 1)))) t136 w _ ?side1 ?side2 A15.out).mono ?_
       (case side1 => repeat (first | (with_reducible first | exact HB.out | apply below_alloc | apply pw_below_drewN | apply below_drew1 | refine below_set ?_ GE129.out) | exact HB.out))
       (case side2 => exact Kd.R_nil _ _ _ _ _)
       rintro e w18 ⟨v137, rfl, ho0, hb, hkp⟩
       refine ⟨_, rfl, ?_⟩
       have n0_ := Aside0.mk (blk_kept (by (with_reducible repeat (first | refine blk_drewN ?_ _ | refine blk_drew ?_ | refine blk_alloc ?_ _)); exact BK129.out) hkp (fun hs_ => (fun e_ => by simp [Value.ownBlock] at e_) hs_))
       have n1_ := Aside0.mk (Kd.R_mono (ok' := fun k_ => True) ho0 (fun k_ hk_ => trivial))
       have n2_ := Aside0.mk (hb)
       clear BK129
       clear HB
       have BK129 := n0_
       have HO138 := n1_
       have HB := n2_
       clear n0_ n1_ n2_
       (try clear hb)
       (try clear hkp)
       (try clear ho0)
       refine hK.out _ _ ⟨((HB.out.cell (World.block_lt_of_cell? w _ hw134_0)).trans hw134_0), ((HB.out.cell (World.block_lt_of_cell? w _ hw135_0)).trans hw135_0)⟩ (fun hHeld => ?_)
       clear hK K
       refine norm_ (a' := ?_) ?_ ?_
       rotate_left
       ·show Act.put _ (some 50) _ = _
        simp only [Act.put, List.setIfInBounds_toArray, List.set_cons_zero, List.set_cons_succ, i64_w, i32_w]
        rfl
       refine pure_ (i := 11) (N := some 4) (v := ?_) (a' := ?_) #[true, true, true, true, true, true, true, true, true, true, true, true] rfl rfl (any_of HT_.out (by kernel_rfl)) (fun _ _ _ h => h) (Or.inl ⟨by rfl, ?_⟩) ?_ ?_
       rotate_left
       ·intro w'
        go_simp
        with_reducible rfl
       rotate_left
       ·simp only [Act.put, List.setIfInBounds_toArray, List.set_cons_zero, List.set_cons_succ, i64_w, i32_w]
        rfl
       refine done_ (done_of HT_.out (by kernel_rfl)) ?_
       obtain ⟨i019, hi019, _, hsz19, _⟩ := info_parts info23
       obtain ⟨A19, hcut19, hA19, hC19⟩ := print_drop_of (P := Tryd.prog) (Value.int .u32) 0 62 23 .i64 Tryd.underlying62 hi019 hsz19 (some ad134) c0 l0 2 (by omega) (of_decide_eq_true (by first | (with_reducible assumption) | assumption)) HC0.out
       have HR139 := Aside0.mk (Kd.C_of_reads (h1 := fun _ => rfl) (hA19 _ (Kd.reads_of_C HR0.out)))
       have HC139 := Aside0.mk hC19
       clear hA19 hC19 hi019 hsz19
       try go_wp2
       go_loopg [4, 54] kj1 (fun kq v4 v54 w' => ∃ (x4_2 : List Int) (x54_2 : Int), v54 = .int .i64 x54_2 ∧ Aside0 (scalar_Oid.l0 kq x4_2 (l0.drop 2) ((l0.drop 2).length : Int) x54_2 = some (r1, r2, r3, r4)) ∧ Aside0 (kq ≤ kj1) ∧ Aside0 (Kd.R (Kd.int .u8) 5 w' w.heap.size (fun _ => True) v4 x4_2) ∧ Aside0 (w'.heap[gb129]? = some (.cells #[.int .i64 0, (.slice none 0 0), (.slice none 0 0)] 28 (0, 0))) ∧ Aside0 (Below w.heap.size w w'))
       case atStart => exact ⟨(t136), (0), (by first | rfl | (simp; done) | (simp [*]; done)), H', ⟨Nat.le_refl _⟩, ⟨by (with_reducible repeat (first | apply Kd.R_alloc | apply Kd.R_drewN | apply Kd.R_drew)); exact HO138.out⟩, ⟨by (with_reducible repeat (first | refine blk_drewN ?_ _ | refine blk_drew ?_ | refine blk_alloc ?_ _)); exact BK129.out⟩, ⟨by repeat (first | (with_reducible first | exact HB.out | apply below_alloc | apply pw_below_drewN | apply below_drew1 | refine below_set ?_ GE129.out) | exact HB.out)⟩⟩
       case round =>
        clear H'
        try clear c1
        try clear p1
        try clear q1
        try clear hx1
        try clear qi1
        try clear p2
        try clear c3
        try clear c4
        try clear c4b0
        try clear c4b1
        try clear c5
        try clear c5b0
        try clear c5b1
        try clear c6
        try clear c6b0
        try clear c6b1
        try clear c7
        try clear c7b0
        try clear c8
        try clear c8b0
        try clear c8b1
        try clear c9
        try clear c9b0
        try clear c10
        try clear c10b0
        try clear c11
        try clear c13
        try clear c13b0
        try clear c13b1
        try clear p13
        try clear q13
        try clear hx13
        try clear qi13
        try clear c14
        try clear c14b0
        try clear c14b1
        try clear c16
        try clear c16b0
        try clear c16b1
        try clear hcz12_0
        try clear hcz12_1
        try clear hcz12_2
        try clear hfz12_0
        try clear hfz12_1
        try clear hfz12_2
        try clear hx130_0
        try clear hx131_0
        try clear hx132_0
        try clear hx133_0
        try clear hx134_0
        try clear hx135_0
        try clear p1
        try clear p130
        try clear p131
        try clear p132
        try clear p133
        try clear p134
        try clear p135
        try clear p2
        try clear q1
        try clear q130
        try clear q131
        try clear q132
        try clear q133
        try clear q134
        try clear q135
        obtain ⟨x4_2, x54_2, rfl, HA, HK2, HO_4, BK129, HB⟩ := hrel
        cases gk with
        | zero => exact absurd HA.out (by simp [scalar_Oid.l0])
        | succ k2 =>
         have H := HA.out
         clear HA
         simp only [scalar_Oid.l0] at H
         by_cases c20 : x54_2 < ((l0.drop 2).length : Int)
         ·rw [if_pos c20] at H
          have c20b0 : decide (x54_2 < ((l0.drop 2).length : Int)) = true := decide_eq_true c20
          clear c20
          by_cases c21 : 0 ≤ x54_2
          ·rw [if_pos c21] at H
           have c21b0 : decide (0 ≤ x54_2) = true := decide_eq_true c21
           clear c21
           by_cases c22 : x54_2 < ((l0.drop 2).length : Int)
           ·rw [if_pos c22] at H
            have c22b0 : decide (x54_2 < ((l0.drop 2).length : Int)) = true := decide_eq_true c22
            clear c22
            replace H := Option.bind_eq_some_iff.mp H
            obtain ⟨t141, A230, H⟩ := H
            replace H : (scalar_Oid.l0 k2 t141 (l0.drop 2) ((l0.drop 2).length : Int) (wrap64 (x54_2 + 1))) = some (r1, r2, r3, r4) := H
            have A23 := Aside0.mk A230
            clear A230
            have H' := Aside0.mk H
            clear H
            have p140 : 0 ≤ (x54_2 : Int) := of_decide_eq_true (by first | (with_reducible assumption) | assumption)
            have q140 : x54_2 < ((l0.drop 2).length : Int) := of_decide_eq_true (by first | (with_reducible assumption) | assumption)
            have q140n : x54_2 < ((l0.length - 2 : Nat) : Int) := by rw [List.length_drop] at q140; exact q140
            replace q140n := eq_true q140n
            obtain ⟨ad140, e140, hx140_0⟩ := Kd.at_int HR139.out x54_2 p140 q140
            cases e140
            replace hx140_0 := (HB.out.cell (World.block_lt_of_cell? w _ hx140_0)).trans hx140_0
            replace p140 := eq_true p140
            replace q140 := eq_true q140
            obtain ⟨Ao24, co24, eo24⟩ := Kd.R_slice HO_4.out
            subst eo24
            go_wp2_with (first | ((with_reducible refine gate_callee (f := 53) rfl ?_); refine goesL_ (some 61) rfl rfl Tryd.func53 (by kernel_rfl) rfl #[.slice Ao24 x4_2.length co24, .int .u64 (IntKind.u64.wrap (rd (l0.drop 2) x54_2))] rfl (by (try simp only [List.map_toArray, List.map_cons, List.map_nil]); first | done | rfl | (simp only [List.length_drop, List.length_take]; rfl)) ?_; (with_reducible refine (scalar_seven.calls k2 (fun k_ => some k_ = (.slice Ao24 x4_2.length co24 : Value).ownBlock) (.slice Ao24 x4_2.length co24) x4_2 (IntKind.u64.wrap (rd (l0.drop 2) x54_2)) t141 w _ ?side1 ?side2 A23.out).mono ?_); (case side1 => repeat (first | (with_reducible first | exact HB.out | apply below_alloc | apply pw_below_drewN | apply below_drew1 | refine below_set ?_ GE129.out) | exact HB.out)); (case side2 => exact Kd.R_tight rfl HO_4.out); rintro e w25 ⟨v142, rfl, ho0, hb, hkp⟩; refine ⟨_, rfl, ?_⟩; have n0_ := Aside0.mk (blk_kept (by (with_reducible repeat (first | refine blk_drewN ?_ _ | refine blk_drew ?_ | refine blk_alloc ?_ _)); exact BK129.out) hkp (fun hs_ => (fun e_ => (Kd.R_ne HO_4.out BK129.out (by decide)) e_) hs_)); have n1_ := Aside0.mk (Kd.R_mono (ok' := fun k_ => True) ho0 (fun k_ hk_ => trivial)); have n2_ := Aside0.mk (hb); clear BK129; clear HB; clear HO_4; have BK129 := n0_; have HO143 := n1_; have HB := n2_; clear n0_ n1_ n2_; (try clear hb); (try clear hkp); (try clear ho0)))
            go_roundg k2
            case measure => have := HJ1.out; have := HK2.out; omega
            case rel => exact ⟨(t141), (wrap64 (x54_2 + 1)), (by first | rfl | (simp; done) | (simp [*]; done)), H', ⟨by have := HJ1.out; have := HK2.out; omega⟩, ⟨by (with_reducible repeat (first | apply Kd.R_alloc | apply Kd.R_drewN | apply Kd.R_drew)); exact HO143.out⟩, ⟨by (with_reducible repeat (first | refine blk_drewN ?_ _ | refine blk_drew ?_ | refine blk_alloc ?_ _)); exact BK129.out⟩, ⟨by repeat (first | (with_reducible first | exact HB.out | apply below_alloc | apply pw_below_drewN | apply below_drew1 | refine below_set ?_ GE129.out) | exact HB.out)⟩⟩
           ·rw [if_neg c22] at H
            exact absurd H (by simp)
          ·rw [if_neg c21] at H
           exact absurd H (by simp)
         ·rw [if_neg c20] at H
          have c20b0 : decide (x54_2 < ((l0.drop 2).length : Int)) = false := decide_eq_false c20
          have c20n : (x54_2 < ((l0.length - 2 : Nat) : Int)) = False := eq_false (by rw [List.length_drop] at c20; exact c20)
          have c20m : (((l0.length - 2 : Nat) : Int) ≤ x54_2) = True := eq_true (by rw [List.length_drop] at c20; omega)
          clear c20
          simp only [Option.some.injEq, Prod.mk.injEq] at H
          obtain ⟨rfl, rfl, rfl, rfl⟩ := H
          obtain ⟨Ao26, co26, eo26⟩ := Kd.R_slice HO_4.out
          subst eo26
          have hcz27_0 : wr.cell? ⟨gb129, 0, none⟩ = some (.int .i64 0) := (blk_cell BK129.out 0).trans rfl
          have hcz27_1 : wr.cell? ⟨gb129, 1, none⟩ = some (.slice none 0 0) := (blk_cell BK129.out 1).trans rfl
          have hcz27_2 : wr.cell? ⟨gb129, 2, none⟩ = some (.slice none 0 0) := (blk_cell BK129.out 2).trans rfl
          have hfz27_0 := blk_frozen BK129.out 0
          have hfz27_1 := blk_frozen BK129.out 1
          have hfz27_2 := blk_frozen BK129.out 2
          go_wp2
          refine bodyPost_ret (results_ct rfl _ _ gb129 28 #[.int .i64 6, .slice Ao26 x4_2.length co26, .slice none 0 0] (0, 0) _ rfl (by (with_reducible repeat (first | refine blk_drewN ?_ _ | refine blk_drew ?_ | refine blk_alloc ?_ _)); refine blk_put (cs := #[.int .i64 6, .slice Ao26 x4_2.length co26, .slice none 0 0]) ?_ 2 _ rfl; (with_reducible repeat (first | refine blk_drewN ?_ _ | refine blk_drew ?_ | refine blk_alloc ?_ _)); refine blk_put (cs := #[.int .i64 6, .slice none 0 0, .slice none 0 0]) ?_ 1 _ rfl; (with_reducible repeat (first | refine blk_drewN ?_ _ | refine blk_drew ?_ | refine blk_alloc ?_ _)); refine blk_put (cs := #[.int .i64 0, .slice none 0 0, .slice none 0 0]) ?_ 0 _ rfl; (with_reducible repeat (first | refine blk_drewN ?_ _ | refine blk_drew ?_ | refine blk_alloc ?_ _)); exact BK129.out) Tryd.underlying28 rfl (by kernel_rfl)) rfl ?_
          exact ⟨_, _, by first | rfl | (simp [errW_none, errW_some] <;> rfl) | (simp [*, errW_none, errW_some] <;> rfl), by (with_reducible repeat (first | apply Kd.R_alloc | apply Kd.R_drewN | apply Kd.R_drew)); exact Kd.R_mono (Kd.R_far (p := ⟨gb129, 2, none⟩) (Kd.R_far (p := ⟨gb129, 1, none⟩) (Kd.R_far (p := ⟨gb129, 0, none⟩) (Kd.R_types HO_4.out BK129.out (by decide)) (fun _ hk => hk.2) (.int .i64 6)) (fun _ hk => hk.2) (.slice Ao26 x4_2.length co26)) (fun _ hk => hk.2) (.slice none 0 0)) (fun _ hk => trivial), by first | exact Kd.R_nil _ _ _ _ _ | exact Kd.N_nil _ _ _ _ _ | exact Kd.V_nil _ _ _ _ _ | exact Kd.Q_nil _ _ _ _ _ | exact Kd.S_nil _ _ _ _ _, by repeat (first | (with_reducible first | exact HB.out | apply below_alloc | apply pw_below_drewN | apply below_drew1 | refine below_set ?_ GE129.out) | exact HB.out)⟩
      ·rw [if_neg c16] at H
       exact absurd H (by simp)
     ·rw [if_neg c14] at H
      exact absurd H (by simp)
    ·rw [if_neg c13] at H
     exact absurd H (by simp)

end Go.Proofs.YtmbgjhkemlliaaaDoor.PT
end

section
namespace Go.Proofs.YtmbgjhkemlliaaaDoor.PT
open Go.RowKit Go.Proofs.YtmbgjhkemlliaaaDoorW.PrintWords Go.Proofs.YtmbgjhkemlliaaaDoorW.PrintLast Go.Proofs.YtmbgjhkemlliaaaDoorW.PrintMore
attribute [local go_sem] max2_int min2_int max_two min_two max_three min_three max_four min_four   -- for this text's walks alone
set_option linter.unusedVariables false
set_option linter.unusedSimpArgs false

def scalar_Bits.f (l0 : List Int) (a1 : Int) : Option (Int × List Int × (List (S28)) × Int) := if a1 < 0 then (some (0, ([] : List Int), ([] : List (S28)), 1)) else (if (wrap64 ((wrap64 (8 * (l0.length : Int))) - a1)) < 0 then (some (0, ([] : List Int), ([] : List (S28)), 1)) else (if (wrap64 ((wrap64 (8 * (l0.length : Int))) - a1)) > 7 then (some (0, ([] : List Int), ([] : List (S28)), 1)) else (if (wrap64 ((wrap64 (8 * (l0.length : Int))) - a1)) > 0 then (if 0 ≤ (wrap64 ((l0.length : Int) - 1)) then (if (wrap64 ((l0.length : Int) - 1)) < (l0.length : Int) then (if 0 ≤ (wrap64 ((wrap64 (8 * (l0.length : Int))) - a1)) then (if (Go.bits .and .u8 (rd l0 (wrap64 ((l0.length : Int) - 1))) (((shl .u8 1 (wrap64 ((wrap64 (8 * (l0.length : Int))) - a1))) - 1) % 256)) = 0 then ((some (([(wrap64 ((wrap64 (8 * (l0.length : Int))) - a1)) % 256] : List Int) : List Int)).bind fun y146 => (if y146.length + l0.length < 140737488355328 then (some (3, (y146 ++ l0), ([] : List (S28)), 0)) else (none))) else (some (0, ([] : List Int), ([] : List (S28)), 1))) else (none)) else (none)) else (none)) else ((some (([(wrap64 ((wrap64 (8 * (l0.length : Int))) - a1)) % 256] : List Int) : List Int)).bind fun y152 => (if y152.length + l0.length < 140737488355328 then (some (3, (y152 ++ l0), ([] : List (S28)), 0)) else (none))))))
set_option maxHeartbeats 8000000 in
set_option maxRecDepth 100000 in
theorem scalar_Bits.calls (A0 : Option Addr) (c0 : Nat) (l0 : List Int) (a1 : Int) (r1 : Int) (r2 : List Int) (r3 : List (S28)) (r4 : Int) (w : World) (hr0 : Kd.C (Kd.int .u8) w A0 l0.length l0) (hc0 : l0.length ≤ c0) (h : scalar_Bits.f l0 a1 = some (r1, r2, r3, r4)) :
 Calls Tryd.prog 32 #[.slice A0 l0.length c0, .int .i64 a1] w fun e w' => ∃ v1_ v2_ : Value, e = .returned (.tuple #[.agg #[.int .i64 r1, v1_, v2_], .int .i64 r4]) ∧ Kd.R (Kd.int .u8) 5 w' w.heap.size (fun _ => True) v1_ r2 ∧ Kd.R k28 28 w' w.heap.size (fun k_ => some k_ ≠ (v1_ : Value).ownBlock) v2_ r3 ∧ Below w.heap.size w w' := by
 have hu28 := Tryd.underlying28
 have HR0 := Aside0.mk hr0
 have HC0 := Aside0.mk hc0
 clear hr0 hc0
 have HB := Aside0.mk (Below.refl w.heap.size w)
 have H : (if a1 < 0 then (some (0, ([] : List Int), ([] : List (S28)), 1)) else (if (wrap64 ((wrap64 (8 * (l0.length : Int))) - a1)) < 0 then (some (0, ([] : List Int), ([] : List (S28)), 1)) else (if (wrap64 ((wrap64 (8 * (l0.length : Int))) - a1)) > 7 then (some (0, ([] : List Int), ([] : List (S28)), 1)) else (if (wrap64 ((wrap64 (8 * (l0.length : Int))) - a1)) > 0 then (if 0 ≤ (wrap64 ((l0.length : Int) - 1)) then (if (wrap64 ((l0.length : Int) - 1)) < (l0.length : Int) then (if 0 ≤ (wrap64 ((wrap64 (8 * (l0.length : Int))) - a1)) then (if (Go.bits .and .u8 (rd l0 (wrap64 ((l0.length : Int) - 1))) (((shl .u8 1 (wrap64 ((wrap64 (8 * (l0.length : Int))) - a1))) - 1) % 256)) = 0 then ((some (([(wrap64 ((wrap64 (8 * (l0.length : Int))) - a1)) % 256] : List Int) : List Int)).bind fun y146 => (if y146.length + l0.length < 140737488355328 then (some (3, (y146 ++ l0), ([] : List (S28)), 0)) else (none))) else (some (0, ([] : List Int), ([] : List (S28)), 1))) else (none)) else (none)) else (none)) else ((some (([(wrap64 ((wrap64 (8 * (l0.length : Int))) - a1)) % 256] : List Int) : List Int)).bind fun y152 => (if y152.length + l0.length < 140737488355328 then (some (3, (y152 ++ l0), ([] : List (S28)), 0)) else (none))))))) = some (r1, r2, r3, r4) := h
 clear h
 by_cases c3 : a1 < 0
 ·rw [if_pos c3] at H
  have c3b0 : decide (a1 < 0) = true := decide_eq_true c3
  clear c3
  simp only [Option.some.injEq, Prod.mk.injEq] at H
  obtain ⟨rfl, rfl, rfl, rfl⟩ := H
  go_enter Tryd.func32, Tryd.ntmps32
  go_wp2_with (first | ((with_reducible refine gate_dst (N := 4) rfl ?_); (try (refine gate_guard (by rfl) ?_; dsimp only)); refine box_event ?hg (N := 4) ?hd (cs := #[.int .i64 0, .slice none 0 0, .slice none 0 0]) (t := 28) ?hr ?_; (case hd => rfl); (case hg => rfl); (case hr => first | (go_simp; done) | (go_simp; rfl)); intro gb144 hg w4 hbox hb; have n0_ := Aside0.mk (below_step (by repeat (first | (with_reducible first | exact HB.out | apply below_alloc | apply pw_below_drewN | apply below_drew1) | exact HB.out)) hb); have n1_ := Aside0.mk (hbox); have n2_ := Aside0.mk ((by rw [hg]; exact (below_size (by repeat (first | (with_reducible first | exact HB.out | apply below_alloc | apply pw_below_drewN | apply below_drew1) | exact HB.out))) : w.heap.size ≤ gb144)); have n3_ := Aside0.mk ((by rw [hg]; exact (below_size (by repeat (first | (with_reducible first | exact HB.out | apply below_alloc | apply pw_below_drewN | apply below_drew1) | exact HB.out))) : w.heap.size ≤ gb144)); clear HB; have HB := n0_; have BK144 := n1_; have GW144 := n2_; have GE144 := n3_; clear n0_ n1_ n2_ n3_; clear hb hbox hg; have hcz5_0 : w4.cell? ⟨gb144, 0, none⟩ = some (.int .i64 0) := (blk_cell BK144.out 0).trans rfl; have hcz5_1 : w4.cell? ⟨gb144, 1, none⟩ = some (.slice none 0 0) := (blk_cell BK144.out 1).trans rfl; have hcz5_2 : w4.cell? ⟨gb144, 2, none⟩ = some (.slice none 0 0) := (blk_cell BK144.out 2).trans rfl; have hfz5_0 := blk_frozen BK144.out 0; have hfz5_1 := blk_frozen BK144.out 1; have hfz5_2 := blk_frozen BK144.out 2))
  repeat (go_quiet (first | ((with_reducible refine gate_dst (N := 4) rfl ?_); (try (refine gate_guard (by rfl) ?_; dsimp only)); refine box_event ?hg (N := 4) ?hd (cs := #[.int .i64 0, .slice none 0 0, .slice none 0 0]) (t := 28) ?hr ?_; (case hd => rfl); (case hg => rfl); (case hr => first | (go_simp; done) | (go_simp; rfl)); intro gb144 hg w4 hbox hb; have n0_ := Aside0.mk (below_step (by repeat (first | (with_reducible first | exact HB.out | apply below_alloc | apply pw_below_drewN | apply below_drew1) | exact HB.out)) hb); have n1_ := Aside0.mk (hbox); have n2_ := Aside0.mk ((by rw [hg]; exact (below_size (by repeat (first | (with_reducible first | exact HB.out | apply below_alloc | apply pw_below_drewN | apply below_drew1) | exact HB.out))) : w.heap.size ≤ gb144)); have n3_ := Aside0.mk ((by rw [hg]; exact (below_size (by repeat (first | (with_reducible first | exact HB.out | apply below_alloc | apply pw_below_drewN | apply below_drew1) | exact HB.out))) : w.heap.size ≤ gb144)); clear HB; have HB := n0_; have BK144 := n1_; have GW144 := n2_; have GE144 := n3_; clear n0_ n1_ n2_ n3_; clear hb hbox hg; have hcz5_0 : w4.cell? ⟨gb144, 0, none⟩ = some (.int .i64 0) := (blk_cell BK144.out 0).trans rfl; have hcz5_1 : w4.cell? ⟨gb144, 1, none⟩ = some (.slice none 0 0) := (blk_cell BK144.out 1).trans rfl; have hcz5_2 : w4.cell? ⟨gb144, 2, none⟩ = some (.slice none 0 0) := (blk_cell BK144.out 2).trans rfl; have hfz5_0 := blk_frozen BK144.out 0; have hfz5_1 := blk_frozen BK144.out 1; have hfz5_2 := blk_frozen BK144.out 2)); try go_wp2_with (first | ((with_reducible refine gate_dst (N := 4) rfl ?_); (try (refine gate_guard (by rfl) ?_; dsimp only)); refine box_event ?hg (N := 4) ?hd (cs := #[.int .i64 0, .slice none 0 0, .slice none 0 0]) (t := 28) ?hr ?_; (case hd => rfl); (case hg => rfl); (case hr => first | (go_simp; done) | (go_simp; rfl)); intro gb144 hg w4 hbox hb; have n0_ := Aside0.mk (below_step (by repeat (first | (with_reducible first | exact HB.out | apply below_alloc | apply pw_below_drewN | apply below_drew1) | exact HB.out)) hb); have n1_ := Aside0.mk (hbox); have n2_ := Aside0.mk ((by rw [hg]; exact (below_size (by repeat (first | (with_reducible first | exact HB.out | apply below_alloc | apply pw_below_drewN | apply below_drew1) | exact HB.out))) : w.heap.size ≤ gb144)); have n3_ := Aside0.mk ((by rw [hg]; exact (below_size (by repeat (first | (with_reducible first | exact HB.out | apply below_alloc | apply pw_below_drewN | apply below_drew1) | exact HB.out))) : w.heap.size ≤ gb144)); clear HB; have HB := n0_; have BK144 := n1_; have GW144 := n2_; have GE144 := n3_; clear n0_ n1_ n2_ n3_; clear hb hbox hg; have hcz5_0 : w4.cell? ⟨gb144, 0, none⟩ = some (.int .i64 0) := (blk_cell BK144.out 0).trans rfl; have hcz5_1 : w4.cell? ⟨gb144, 1, none⟩ = some (.slice none 0 0) := (blk_cell BK144.out 1).trans rfl; have hcz5_2 : w4.cell? ⟨gb144, 2, none⟩ = some (.slice none 0 0) := (blk_cell BK144.out 2).trans rfl; have hfz5_0 := blk_frozen BK144.out 0; have hfz5_1 := blk_frozen BK144.out 1; have hfz5_2 := blk_frozen BK144.out 2)))
  refine bodyPost_ret (results_ct rfl _ _ gb144 28 #[.int .i64 0, .slice none 0 0, .slice none 0 0] (0, 0) _ rfl (by (with_reducible repeat (first | refine blk_drewN ?_ _ | refine blk_drew ?_ | refine blk_alloc ?_ _)); refine blk_put (cs := #[.int .i64 0, .slice none 0 0, .slice none 0 0]) ?_ 2 _ rfl; (with_reducible repeat (first | refine blk_drewN ?_ _ | refine blk_drew ?_ | refine blk_alloc ?_ _)); refine blk_put (cs := #[.int .i64 0, .slice none 0 0, .slice none 0 0]) ?_ 1 _ rfl; (with_reducible repeat (first | refine blk_drewN ?_ _ | refine blk_drew ?_ | refine blk_alloc ?_ _)); refine blk_put (cs := #[.int .i64 0, .slice none 0 0, .slice none 0 0]) ?_ 0 _ rfl; (with_reducible repeat (first | refine blk_drewN ?_ _ | refine blk_drew ?_ | refine blk_alloc ?_ _)); exact BK144.out) Tryd.underlying28 rfl (by kernel_rfl)) rfl ?_
  exact ⟨_, _, by first | rfl | (simp [errW_none, errW_some] <;> rfl) | (simp [*, errW_none, errW_some] <;> rfl), by first | exact Kd.R_nil _ _ _ _ _ | exact Kd.N_nil _ _ _ _ _ | exact Kd.V_nil _ _ _ _ _ | exact Kd.Q_nil _ _ _ _ _ | exact Kd.S_nil _ _ _ _ _, by first | exact Kd.R_nil _ _ _ _ _ | exact Kd.N_nil _ _ _ _ _ | exact Kd.V_nil _ _ _ _ _ | exact Kd.Q_nil _ _ _ _ _ | exact Kd.S_nil _ _ _ _ _, by repeat (first | (with_reducible first | exact HB.out | apply below_alloc | apply pw_below_drewN | apply below_drew1 | refine below_set ?_ GE144.out) | exact HB.out)⟩
 ·rw [if_neg c3] at H
  have c3b0 : decide (a1 < 0) = false := decide_eq_false c3
  clear c3
  by_cases c6 : (wrap64 ((wrap64 (8 * (l0.length : Int))) - a1)) < 0
  ·rw [if_pos c6] at H
   have c6b0 : decide ((wrap64 ((wrap64 (8 * (l0.length : Int))) - a1)) < 0) = true := decide_eq_true c6
   clear c6
   simp only [Option.some.injEq, Prod.mk.injEq] at H
   obtain ⟨rfl, rfl, rfl, rfl⟩ := H
   go_enter Tryd.func32, Tryd.ntmps32
   go_wp2_with (first | ((with_reducible refine gate_dst (N := 4) rfl ?_); (try (refine gate_guard (by rfl) ?_; dsimp only)); refine box_event ?hg (N := 4) ?hd (cs := #[.int .i64 0, .slice none 0 0, .slice none 0 0]) (t := 28) ?hr ?_; (case hd => rfl); (case hg => rfl); (case hr => first | (go_simp; done) | (go_simp; rfl)); intro gb144 hg w7 hbox hb; have n0_ := Aside0.mk (below_step (by repeat (first | (with_reducible first | exact HB.out | apply below_alloc | apply pw_below_drewN | apply below_drew1) | exact HB.out)) hb); have n1_ := Aside0.mk (hbox); have n2_ := Aside0.mk ((by rw [hg]; exact (below_size (by repeat (first | (with_reducible first | exact HB.out | apply below_alloc | apply pw_below_drewN | apply below_drew1) | exact HB.out))) : w.heap.size ≤ gb144)); have n3_ := Aside0.mk ((by rw [hg]; exact (below_size (by repeat (first | (with_reducible first | exact HB.out | apply below_alloc | apply pw_below_drewN | apply below_drew1) | exact HB.out))) : w.heap.size ≤ gb144)); clear HB; have HB := n0_; have BK144 := n1_; have GW144 := n2_; have GE144 := n3_; clear n0_ n1_ n2_ n3_; clear hb hbox hg; have hcz8_0 : w7.cell? ⟨gb144, 0, none⟩ = some (.int .i64 0) := (blk_cell BK144.out 0).trans rfl; have hcz8_1 : w7.cell? ⟨gb144, 1, none⟩ = some (.slice none 0 0) := (blk_cell BK144.out 1).trans rfl; have hcz8_2 : w7.cell? ⟨gb144, 2, none⟩ = some (.slice none 0 0) := (blk_cell BK144.out 2).trans rfl; have hfz8_0 := blk_frozen BK144.out 0; have hfz8_1 := blk_frozen BK144.out 1; have hfz8_2 := blk_frozen BK144.out 2))
   repeat (go_quiet (first | ((with_reducible refine gate_dst (N := 4) rfl ?_); (try (refine gate_guard (by rfl) ?_; dsimp only)); refine box_event ?hg (N := 4) ?hd (cs := #[.int .i64 0, .slice none 0 0, .slice none 0 0]) (t := 28) ?hr ?_; (case hd => rfl); (case hg => rfl); (case hr => first | (go_simp; done) | (go_simp; rfl)); intro gb144 hg w7 hbox hb; have n0_ := Aside0.mk (below_step (by repeat (first | (with_reducible first | exact HB.out | apply below_alloc | apply pw_below_drewN | apply below_drew1) | exact HB.out)) hb); have n1_ := Aside0.mk (hbox); have n2_ := Aside0.mk ((by rw [hg]; exact (below_size (by repeat (first | (with_reducible first | exact HB.out | apply below_alloc | apply pw_below_drewN | apply below_drew1) | exact HB.out))) : w.heap.size ≤ gb144)); have n3_ := Aside0.mk ((by rw [hg]; exact (below_size (by repeat (first | (with_reducible first | exact HB.out | apply below_alloc | apply pw_below_drewN | apply below_drew1) | exact HB.out))) : w.heap.size ≤ gb144)); clear HB; have HB := n0_; have BK144 := n1_; have GW144 := n2_; have GE144 := n3_; clear n0_ n1_ n2_ n3_; clear hb hbox hg; have hcz8_0 : w7.cell? ⟨gb144, 0, none⟩ = some (.int .i64 0) := (blk_cell BK144.out 0).trans rfl; have hcz8_1 : w7.cell? ⟨gb144, 1, none⟩ = some (.slice none 0 0) := (blk_cell BK144.out 1).trans rfl; have hcz8_2 : w7.cell? ⟨gb144, 2, none⟩ = some (.slice none 0 0) := (blk_cell BK144.out 2).trans rfl; have hfz8_0 := blk_frozen BK144.out 0; have hfz8_1 := blk_frozen BK144.out 1; have hfz8_2 := blk_frozen BK144.out 2)); try go_wp2_with (first | ((with_reducible refine gate_dst (N := 4) rfl ?_); (try (refine gate_guard (by rfl) ?_; dsimp only)); refine box_event ?hg (N := 4) ?hd (cs := #[.int .i64 0, .slice none 0 0, .slice none 0 0]) (t := 28) ?hr ?_; (case hd => rfl); (case hg => rfl); (case hr => first | (go_simp; done) | (go_simp; rfl)); intro gb144 hg w7 hbox hb; have n0_ := Aside0.mk (below_step (by repeat (first | (with_reducible first | exact HB.out | apply below_alloc | apply pw_below_drewN | apply below_drew1) | exact HB.out)) hb); have n1_ := Aside0.mk (hbox); have n2_ := Aside0.mk ((by rw [hg]; exact (below_size (by repeat (first | (with_reducible first | exact HB.out | apply below_alloc | apply pw_below_drewN | apply below_drew1) | exact HB.out))) : w.heap.size ≤ gb144)); have n3_ := Aside0.mk ((by rw [hg]; exact (below_size (by repeat (first | (with_reducible first | exact HB.out | apply below_alloc | apply pw_below_drewN | apply below_drew1) | exact HB.out))) : w.heap.size ≤ gb144)); clear HB; have HB := n0_; have BK144 := n1_; have GW144 := n2_; have GE144 := n3_; clear n0_ n1_ n2_ n3_; clear hb hbox hg; have hcz8_0 : w7.cell? ⟨gb144, 0, none⟩ = some (.int .i64 0) := (blk_cell BK144.out 0).trans rfl; have hcz8_1 : w7.cell? ⟨gb144, 1, none⟩ = some (.slice none 0 0) := (blk_cell BK144.out 1).trans rfl; have hcz8_2 : w7.cell? ⟨gb144, 2, none⟩ = some (.slice none 0 0) := (blk_cell BK144.out 2).trans rfl; have hfz8_0 := blk_frozen BK144.out 0; have hfz8_1 := blk_frozen BK144.out 1; have hfz8_2 := blk_frozen BK144.out 2)))
   refine bodyPost_ret (results_ct rfl _ _ gb144 28 #[.int .i64 0, .slice none 0 0, .slice none 0 0] (0, 0) _ rfl (by (with_reducible repeat (first | refine blk_drewN ?_ _ | refine blk_drew ?_ | refine blk_alloc ?_ _)); refine blk_put (cs := #[.int .i64 0, .slice none 0 0, .slice none 0 0]) ?_ 2 _ rfl; (with_reducible repeat (first | refine blk_drewN ?_ _ | refine blk_drew ?_ | refine blk_alloc ?_ _)); refine blk_put (cs := #[.int .i64 0, .slice none 0 0, .slice none 0 0]) ?_ 1 _ rfl; (with_reducible repeat (first | refine blk_drewN ?_ _ | refine blk_drew ?_ | refine blk_alloc ?_ _)); refine blk_put (cs := #[.int .i64 0, .slice none 0 0, .slice none 0 0]) ?_ 0 _ rfl; (with_reducible repeat (first | refine blk_drewN ?_ _ | refine blk_drew ?_ | refine blk_alloc ?_ _)); exact BK144.out) Tryd.underlying28 rfl (by kernel_rfl)) rfl ?_
   exact ⟨_, _, by first | rfl | (simp [errW_none, errW_some] <;> rfl) | (simp [*, errW_none, errW_some] <;> rfl), by first | exact Kd.R_nil _ _ _ _ _ | exact Kd.N_nil _ _ _ _ _ | exact Kd.V_nil _ _ _ _ _ | exact Kd.Q_nil _ _ _ _ _ | exact Kd.S_nil _ _ _ _ _, by first | exact Kd.R_nil _ _ _ _ _ | exact Kd.N_nil _ _ _ _ _ | exact Kd.V_nil _ _ _ _ _ | exact Kd.Q_nil _ _ _ _ _ | exact Kd.S_nil _ _ _ _ _, by repeat (first | (with_reducible first | exact HB.out | apply below_alloc | apply pw_below_drewN | apply below_drew1 | refine below_set ?_ GE144.out) | exact HB.out)⟩
  ·rw [if_neg c6] at H
   have c6b0 : decide ((wrap64 ((wrap64 (8 * (l0.length : Int))) - a1)) < 0) = false := decide_eq_false c6
   clear c6
   by_cases c9 : (wrap64 ((wrap64 (8 * (l0.length : Int))) - a1)) > 7
   ·rw [if_pos c9] at H
    have c9b0 : decide (7 < (wrap64 ((wrap64 (8 * (l0.length : Int))) - a1))) = true := decide_eq_true c9
    clear c9
    simp only [Option.some.injEq, Prod.mk.injEq] at H
    obtain ⟨rfl, rfl, rfl, rfl⟩ := H
    go_enter Tryd.func32, Tryd.ntmps32
    go_wp2_with (first | ((with_reducible refine gate_dst (N := 4) rfl ?_); (try (refine gate_guard (by rfl) ?_; dsimp only)); refine box_event ?hg (N := 4) ?hd (cs := #[.int .i64 0, .slice none 0 0, .slice none 0 0]) (t := 28) ?hr ?_; (case hd => rfl); (case hg => rfl); (case hr => first | (go_simp; done) | (go_simp; rfl)); intro gb144 hg w10 hbox hb; have n0_ := Aside0.mk (below_step (by repeat (first | (with_reducible first | exact HB.out | apply below_alloc | apply pw_below_drewN | apply below_drew1) | exact HB.out)) hb); have n1_ := Aside0.mk (hbox); have n2_ := Aside0.mk ((by rw [hg]; exact (below_size (by repeat (first | (with_reducible first | exact HB.out | apply below_alloc | apply pw_below_drewN | apply below_drew1) | exact HB.out))) : w.heap.size ≤ gb144)); have n3_ := Aside0.mk ((by rw [hg]; exact (below_size (by repeat (first | (with_reducible first | exact HB.out | apply below_alloc | apply pw_below_drewN | apply below_drew1) | exact HB.out))) : w.heap.size ≤ gb144)); clear HB; have HB := n0_; have BK144 := n1_; have GW144 := n2_; have GE144 := n3_; clear n0_ n1_ n2_ n3_; clear hb hbox hg; have hcz11_0 : w10.cell? ⟨gb144, 0, none⟩ = some (.int .i64 0) := (blk_cell BK144.out 0).trans rfl; have hcz11_1 : w10.cell? ⟨gb144, 1, none⟩ = some (.slice none 0 0) := (blk_cell BK144.out 1).trans rfl; have hcz11_2 : w10.cell? ⟨gb144, 2, none⟩ = some (.slice none 0 0) := (blk_cell BK144.out 2).trans rfl; have hfz11_0 := blk_frozen BK144.out 0; have hfz11_1 := blk_frozen BK144.out 1; have hfz11_2 := blk_frozen BK144.out 2))
    repeat (go_quiet (first | ((with_reducible refine gate_dst (N := 4) rfl ?_); (try (refine gate_guard (by rfl) ?_; dsimp only)); refine box_event ?hg (N := 4) ?hd (cs := #[.int .i64 0, .slice none 0 0, .slice none 0 0]) (t := 28) ?hr ?_; (case hd => rfl); (case hg => rfl); (case hr => first | (go_simp; done) | (go_simp; rfl)); intro gb144 hg w10 hbox hb; have n0_ := Aside0.mk (below_step (by repeat (first | (with_reducible first | exact HB.out | apply below_alloc | apply pw_below_drewN | apply below_drew1) | exact HB.out)) hb); have n1_ := Aside0.mk (hbox); have n2_ := Aside0.mk ((by rw [hg]; exact (below_size (by repeat (first | (with_reducible first | exact HB.out | apply below_alloc | apply pw_below_drewN | apply below_drew1) | exact HB.out))) : w.heap.size ≤ gb144)); have n3_ := Aside0.mk ((by rw [hg]; exact (below_size (by repeat (first | (with_reducible first | exact HB.out | apply below_alloc | apply pw_below_drewN | apply below_drew1) | exact HB.out))) : w.heap.size ≤ gb144)); clear HB; have HB := n0_; have BK144 := n1_; have GW144 := n2_; have GE144 := n3_; clear n0_ n1_ n2_ n3_; clear hb hbox hg; have hcz11_0 : w10.cell? ⟨gb144, 0, none⟩ = some (.int .i64 0) := (blk_cell BK144.out 0).trans rfl; have hcz11_1 : w10.cell? ⟨gb144, 1, none⟩ = some (.slice none 0 0) := (blk_cell BK144.out 1).trans rfl; have hcz11_2 : w10.cell? ⟨gb144, 2, none⟩ = some (.slice none 0 0) := (blk_cell BK144.out 2).trans rfl; have hfz11_0 := blk_frozen BK144.out 0; have hfz11_1 := blk_frozen BK144.out 1; have hfz11_2 := blk_frozen BK144.out 2)); try go_wp2_with (first | ((with_reducible refine gate_dst (N := 4) rfl ?_); (try (refine gate_guard (by rfl) ?_; dsimp only)); refine box_event ?hg (N := 4) ?hd (cs := #[.int .i64 0, .slice none 0 0, .slice none 0 0]) (t := 28) ?hr ?_; (case hd => rfl); (case hg => rfl); (case hr => first | (go_simp; done) | (go_simp; rfl)); intro gb144 hg w10 hbox hb; have n0_ := Aside0.mk (below_step (by repeat (first | (with_reducible first | exact HB.out | apply below_alloc | apply pw_below_drewN | apply below_drew1) | exact HB.out)) hb); have n1_ := Aside0.mk (hbox); have n2_ := Aside0.mk ((by rw [hg]; exact (below_size (by repeat (first | (with_reducible first | exact HB.out | apply below_alloc | apply pw_below_drewN | apply below_drew1) | exact HB.out))) : w.heap.size ≤ gb144)); have n3_ := Aside0.mk ((by rw [hg]; exact (below_size (by repeat (first | (with_reducible first | exact HB.out | apply below_alloc | apply pw_below_drewN | apply below_drew1) | exact HB.out))) : w.heap.size ≤ gb144)); clear HB; have HB := n0_; have BK144 := n1_; have GW144 := n2_; have GE144 := n3_; clear n0_ n1_ n2_ n3_; clear hb hbox hg; have hcz11_0 : w10.cell? ⟨gb144, 0, none⟩ = some (.int .i64 0) := (blk_cell BK144.out 0).trans rfl; have hcz11_1 : w10.cell? ⟨gb144, 1, none⟩ = some (.slice none 0 0) := (blk_cell BK144.out 1).trans rfl; have hcz11_2 : w10.cell? ⟨gb144, 2, none⟩ = some (.slice none 0 0) := (blk_cell BK144.out 2).trans rfl; have hfz11_0 := blk_frozen BK144.out 0; have hfz11_1 := blk_frozen BK144.out 1; have hfz11_2 := blk_frozen BK144.out 2)))
    refine bodyPost_ret (results_ct rfl _ _ gb144 28 #[.int .i64 0, .slice none 0 0, .slice none 0 0] (0, 0) _ rfl (by (with_reducible repeat (first | refine blk_drewN ?_ _ | refine blk_drew ?_ | refine blk_alloc ?_ _)); refine blk_put (cs := #[.int .i64 0, .slice none 0 0, .slice none 0 0]) ?_ 2 _ rfl; (with_reducible repeat (first | refine blk_drewN ?_ _ | refine blk_drew ?_ | refine blk_alloc ?_ _)); refine blk_put (cs := #[.int .i64 0, .slice none 0 0, .slice none 0 0]) ?_ 1 _ rfl; (with_reducible repeat (first | refine blk_drewN ?_ _ | refine blk_drew ?_ | refine blk_alloc ?_ _)); refine blk_put (cs := #[.int .i64 0, .slice none 0 0, .slice none 0 0]) ?_ 0 _ rfl; (with_reducible repeat (first | refine blk_drewN ?_ _ | refine blk_drew ?_ | refine blk_alloc ?_ _)); exact BK144.out) Tryd.underlying28 rfl (by kernel_rfl)) rfl ?_
    exact ⟨_, _, by first | rfl | (simp [errW_none, errW_some] <;> rfl) | (simp [*, errW_none, errW_some] <;> rfl), by first | exact Kd.R_nil _ _ _ _ _ | exact Kd.N_nil _ _ _ _ _ | exact Kd.V_nil _ _ _ _ _ | exact Kd.Q_nil _ _ _ _ _ | exact Kd.S_nil _ _ _ _ _, by first | exact Kd.R_nil _ _ _ _ _ | exact Kd.N_nil _ _ _ _ _ | exact Kd.V_nil _ _ _ _ _ | exact Kd.Q_nil _ _ _ _ _ | exact Kd.S_nil _ _ _ _ _, by repeat (first | (with_reducible first | exact HB.out | apply below_alloc | apply pw_below_drewN | apply below_drew1 | refine below_set ?_ GE144.out) | exact HB.out)⟩
   ·rw [if_neg c9] at H
    have c9b0 : decide (7 < (wrap64 ((wrap64 (8 * (l0.length : Int))) - a1))) = false := decide_eq_false c9
    clear c9
    by_cases c12 : (wrap64 ((wrap64 (8 * (l0.length : Int))) - a1)) > 0
    ·rw [if_pos c12] at H
     have c12b0 : decide (0 < (wrap64 ((wrap64 (8 * (l0.length : Int))) - a1))) = true := decide_eq_true c12
     clear c12
     obtain ⟨ji13, hji13⟩ : ∃ j_ : Int, (wrap64 ((l0.length : Int) - 1)) = j_ := ⟨_, rfl⟩
     replace H : (if 0 ≤ (ji13) then (if (ji13) < (l0.length : Int) then (if 0 ≤ (wrap64 ((wrap64 (8 * (l0.length : Int))) - a1)) then (if (Go.bits .and .u8 (rd l0 (ji13)) (((shl .u8 1 (wrap64 ((wrap64 (8 * (l0.length : Int))) - a1))) - 1) % 256)) = 0 then ((some (([(wrap64 ((wrap64 (8 * (l0.length : Int))) - a1)) % 256] : List Int) : List Int)).bind fun y146 => (if y146.length + l0.length < 140737488355328 then (some (3, (y146 ++ l0), ([] : List (S28)), 0)) else (none))) else (some (0, ([] : List Int), ([] : List (S28)), 1))) else (none)) else (none)) else (none)) = some (r1, r2, r3, r4) := by first | (rw [hji13] at H; exact H) | (simp only [hji13] at H ⊢; exact H)
     have hji13w : (IntKind.i64.wrap ((l0.length : Int) - 1)) = ji13 := (i64_w _).trans hji13
     by_cases c14 : 0 ≤ (ji13)
     ·rw [if_pos c14] at H
      have c14b0 : decide (0 ≤ (ji13)) = true := decide_eq_true c14
      clear c14
      by_cases c15 : (ji13) < (l0.length : Int)
      ·rw [if_pos c15] at H
       have c15b0 : decide ((ji13) < (l0.length : Int)) = true := decide_eq_true c15
       clear c15
       obtain ⟨ji16, hji16⟩ : ∃ j_ : Int, (wrap64 ((wrap64 (8 * (l0.length : Int))) - a1)) = j_ := ⟨_, rfl⟩
       replace H : (if 0 ≤ (ji16) then (if (Go.bits .and .u8 (rd l0 (ji13)) (((shl .u8 1 (ji16)) - 1) % 256)) = 0 then ((some (([(ji16) % 256] : List Int) : List Int)).bind fun y146 => (if y146.length + l0.length < 140737488355328 then (some (3, (y146 ++ l0), ([] : List (S28)), 0)) else (none))) else (some (0, ([] : List Int), ([] : List (S28)), 1))) else (none)) = some (r1, r2, r3, r4) := by first | (rw [hji16] at H; exact H) | (simp only [hji16] at H ⊢; exact H)
       (try rw [hji16] at c6b0)
       (try rw [hji16] at c9b0)
       (try rw [hji16] at c12b0)
       have hji16w : (IntKind.i64.wrap ((wrap64 (8 * (l0.length : Int))) - a1)) = ji16 := (i64_w _).trans hji16
       by_cases c17 : 0 ≤ (ji16)
       ·rw [if_pos c17] at H
        have c17b0 := eq_true c17
        have c17b1 : decide (0 ≤ (ji16)) = true := decide_eq_true c17
        clear c17
        obtain ⟨ji18, hji18⟩ : ∃ j_ : Int, (shl .u8 1 (ji16)) = j_ := ⟨_, rfl⟩
        replace H : (if (Go.bits .and .u8 (rd l0 (ji13)) (((ji18) - 1) % 256)) = 0 then ((some (([(ji16) % 256] : List Int) : List Int)).bind fun y146 => (if y146.length + l0.length < 140737488355328 then (some (3, (y146 ++ l0), ([] : List (S28)), 0)) else (none))) else (some (0, ([] : List Int), ([] : List (S28)), 1))) = some (r1, r2, r3, r4) := by first | (rw [hji18] at H; exact H) | (simp only [hji18] at H ⊢; exact H)
        have hji18_ : (IntKind.u8.wrap (1 * 2 ^ min (ji16).toNat 8)) = ji18 := hji18
        have hji18z : (ji16) ≤ 8 → (IntKind.u8.wrap (1 * 2 ^ (ji16).toNat)) = ji18 := shl_small hji18
        have hji18u : (IntKind.u8.wrap (2 ^ min (ji16).toNat 8)) = ji18 := by have h_ := hji18_; rw [Int.one_mul] at h_; exact h_
        have hji18v : (ji16) ≤ 8 → (IntKind.u8.wrap (2 ^ (ji16).toNat)) = ji18 := fun hle_ => by have h_ := hji18z hle_; rw [Int.one_mul] at h_; exact h_
        by_cases c19 : (Go.bits .and .u8 (rd l0 (ji13)) (((ji18) - 1) % 256)) = 0
        ·rw [if_pos c19] at H
         have c19b0 : ((Go.bits .and .u8 (rd l0 (ji13)) (((ji18) - 1) % 256)) == 0) = true := beq_iff_eq.mpr c19
         have c19b1 : ((Go.bits .and .u8 (rd l0 (ji13)) (((ji18) - 1) % 256)) != 0) = false := bne_eq_false_iff_eq.mpr c19
         clear c19
         obtain ⟨y146, hy146⟩ : ∃ y_ : List Int, y_ = (([(ji16) % 256] : List Int)) := ⟨_, rfl⟩
         replace H : (if y146.length + l0.length < 140737488355328 then (some (3, (y146 ++ l0), ([] : List (S28)), 0)) else (none)) = some (r1, r2, r3, r4) := by first | (rw [hy146]; with_reducible exact H) | (have H2_ := (Option.bind_some _ _).symm.trans H; rw [hy146]; with_reducible exact H2_) | (have H2_ := (Option.bind_some _ _).symm.trans H; with_reducible exact H2_) | with_reducible exact H | (rw [hy146]; exact H) | exact H
         have Ny146 := Aside0.mk hy146
         clear hy146
         by_cases c20 : y146.length + l0.length < 140737488355328
         ·rw [if_pos c20] at H
          have LMc20 := Aside0.mk c20
          clear c20
          obtain ⟨y149, hy149⟩ : ∃ y_ : List Int, y_ = (y146 ++ l0) := ⟨_, rfl⟩
          replace H : (some (3, y149, ([] : List (S28)), 0)) = some (r1, r2, r3, r4) := by first | (rw [hy149]; with_reducible exact H) | (have H2_ := (Option.bind_some _ _).symm.trans H; rw [hy149]; with_reducible exact H2_) | (have H2_ := (Option.bind_some _ _).symm.trans H; with_reducible exact H2_) | with_reducible exact H | (rw [hy149]; exact H) | exact H
          have Ny149 := Aside0.mk hy149
          clear hy149
          simp only [Option.some.injEq, Prod.mk.injEq] at H
          obtain ⟨rfl, rfl, rfl, rfl⟩ := H
          go_enter Tryd.func32, Tryd.ntmps32
          go_wp2_with (first | ((with_reducible refine gate_dst (N := 4) rfl ?_); (try (refine gate_guard (by rfl) ?_; dsimp only)); refine box_event ?hg (N := 4) ?hd (cs := #[.int .i64 0, .slice none 0 0, .slice none 0 0]) (t := 28) ?hr ?_; (case hd => rfl); (case hg => rfl); (case hr => first | (go_simp; done) | (go_simp; rfl)); intro gb144 hg w21 hbox hb; have n0_ := Aside0.mk (below_step (by repeat (first | (with_reducible first | exact HB.out | apply below_alloc | apply pw_below_drewN | apply below_drew1) | exact HB.out)) hb); have n1_ := Aside0.mk (hbox); have n2_ := Aside0.mk ((by rw [hg]; exact (below_size (by repeat (first | (with_reducible first | exact HB.out | apply below_alloc | apply pw_below_drewN | apply below_drew1) | exact HB.out))) : w.heap.size ≤ gb144)); have n3_ := Aside0.mk ((by rw [hg]; exact (below_size (by repeat (first | (with_reducible first | exact HB.out | apply below_alloc | apply pw_below_drewN | apply below_drew1) | exact HB.out))) : w.heap.size ≤ gb144)); clear HB; have HB := n0_; have BK144 := n1_; have GW144 := n2_; have GE144 := n3_; clear n0_ n1_ n2_ n3_; clear hb hbox hg; have p145 : 0 ≤ ((ji13) : Int) := of_decide_eq_true (by first | (with_reducible assumption) | assumption); have q145 : (ji13) < (l0.length : Int) := of_decide_eq_true (by first | (with_reducible assumption) | assumption); obtain ⟨ad145, e145, hx145_0⟩ := Kd.at_int HR0.out (ji13) p145 q145; cases e145; replace hx145_0 := (HB.out.cell (World.block_lt_of_cell? w _ hx145_0)).trans hx145_0; replace p145 := eq_true p145; replace q145 := eq_true q145) | ((with_reducible refine gate_dst (N := 42) rfl ?_); (try (refine gate_guard (by rfl) ?_; dsimp only)); refine Kd.R_lit (Kd.int .u8) _ 5 ?hg (N := 42) ?hd (xs := ([(ji16) % 256] : List Int)) (inner := [.int .u8 ((ji16) % 256)]) (ok := fun _ => True) (okp := fun _ => True) ?hr ?hp (fun _ hk => hk) trivial (Below.refl _ _) (Nat.le_refl _) (by simp) ?_; (case hd => rfl); (case hg => rfl); (case hr => first | (go_simp; done) | (go_simp; rfl)); (case hp => exact (Reps.one (show Kd.M (Kd.int .u8) _ _ _ ((ji16) % 256) [.int .u8 ((ji16) % 256)] from rfl) (Reps.none _ _))); intro v147 w22 ho23 hb hg_ hnew_; clear hg_ hnew_; (first | rw [← Ny146.out] at ho23 | (simp only [Int.reduceToNat] at ho23; rw [← Ny146.out] at ho23)); have n0_ := Aside0.mk (Kd.R_lower ho23 (below_size (by repeat (first | (with_reducible first | exact HB.out | apply below_alloc | apply pw_below_drewN | apply below_drew1 | refine below_set ?_ GE144.out) | exact HB.out)))); have n1_ := Aside0.mk (blk_below (g := gb144) (o := .cells #[.int .i64 0, .slice none 0 0, .slice none 0 0] 28 (0, 0)) (by (with_reducible repeat (first | refine blk_drewN ?_ _ | refine blk_drew ?_ | refine blk_alloc ?_ _)); exact BK144.out) hb); have n2_ := Aside0.mk (below_step (by repeat (first | (with_reducible first | exact HB.out | apply below_alloc | apply pw_below_drewN | apply below_drew1 | refine below_set ?_ GE144.out) | exact HB.out)) hb); clear BK144; clear HB; have HO148 := n0_; have BK144 := n1_; have HB := n2_; clear n0_ n1_ n2_; clear hb ho23) | ((with_reducible refine gate_builtin (b := .append) (xs := #[.tmp 42, .tmp 43]) rfl ?_); (try (refine gate_guard (by rfl) ?_; dsimp only)); at_builtin; refine Kd.R_append_rows (Kd.int .u8) (w0 := w) w.heap.size rfl (.tmp 42) (.tmp 43) 22 5 (.int .u8 0) 1 rfl Tryd.underlying22 info5 rfl (by decide) (by omega) v147 y146 l0 _ _ _ (fun _ => True) (fun _ => False) rfl rfl ?aO ?aR (fun _ _ h => h) (fun _ h => h.elim) ?aF ?aB ?aS ?aL ?_; (case aR => repeat (first | exact (Kd.C_below HR0.out HB.out) | (with_reducible refine Kd.C_alloc ?_ _) | (with_reducible refine Kd.C_drewN ?_ _) | (with_reducible refine Kd.C_drew ?_))); (case aB => exact (by repeat (first | (with_reducible first | exact HB.out | apply below_alloc | apply pw_below_drewN | apply below_drew1 | refine below_set ?_ GE144.out) | exact HB.out))); (case aF => exact (fun _ _ => trivial)); (case aO => exact (by (with_reducible repeat (first | apply Kd.R_alloc | apply Kd.R_drewN | apply Kd.R_drew)); exact HO148.out)); (case aS => exact (below_size (by repeat (first | (with_reducible first | exact HB.out | apply below_alloc | apply pw_below_drewN | apply below_drew1 | refine below_set ?_ GE144.out) | exact HB.out)))); (case aL => have := LMc20.out; omega); intro v150 w24 ho hb hg hat; rw [← Ny149.out] at ho; have n0_ := Aside0.mk (blk_grown (g := gb144) (o := .cells #[.int .i64 0, .slice none 0 0, .slice none 0 0] 28 (0, 0)) (by (with_reducible repeat (first | refine blk_drewN ?_ _ | refine blk_drew ?_ | refine blk_alloc ?_ _)); exact BK144.out) hg (Kd.R_ne HO148.out BK144.out (by decide))); have n1_ := Aside0.mk (hb); have n2_ := Aside0.mk (ho); clear BK144; clear HB; clear HO148; have BK144 := n0_; have HB := n1_; have HO151 := n2_; clear n0_ n1_ n2_; clear ho hb hg hat; obtain ⟨Ao25, co25, eo25⟩ := Kd.R_slice HO151.out; subst eo25; have hcz26_0 : w24.cell? ⟨gb144, 0, none⟩ = some (.int .i64 0) := (blk_cell BK144.out 0).trans rfl; have hcz26_1 : w24.cell? ⟨gb144, 1, none⟩ = some (.slice none 0 0) := (blk_cell BK144.out 1).trans rfl; have hcz26_2 : w24.cell? ⟨gb144, 2, none⟩ = some (.slice none 0 0) := (blk_cell BK144.out 2).trans rfl; have hfz26_0 := blk_frozen BK144.out 0; have hfz26_1 := blk_frozen BK144.out 1; have hfz26_2 := blk_frozen BK144.out 2))
          repeat (go_quiet (first | ((with_reducible refine gate_dst (N := 4) rfl ?_); (try (refine gate_guard (by rfl) ?_; dsimp only)); refine box_event ?hg (N := 4) ?hd (cs := #[.int .i64 0, .slice none 0 0, .slice none 0 0]) (t := 28) ?hr ?_; (case hd => rfl); (case hg => rfl); (case hr => first | (go_simp; done) | (go_simp; rfl)); intro gb144 hg w21 hbox hb; have n0_ := Aside0.mk (below_step (by repeat (first | (with_reducible first | exact HB.out | apply below_alloc | apply pw_below_drewN | apply below_drew1) | exact HB.out)) hb); have n1_ := Aside0.mk (hbox); have n2_ := Aside0.mk ((by rw [hg]; exact (below_size (by repeat (first | (with_reducible first | exact HB.out | apply below_alloc | apply pw_below_drewN | apply below_drew1) | exact HB.out))) : w.heap.size ≤ gb144)); have n3_ := Aside0.mk ((by rw [hg]; exact (below_size (by repeat (first | (with_reducible first | exact HB.out | apply below_alloc | apply pw_below_drewN | apply below_drew1) | exact HB.out))) : w.heap.size ≤ gb144)); clear HB; have HB := n0_; have BK144 := n1_; have GW144 := n2_; have GE144 := n3_; clear n0_ n1_ n2_ n3_; clear hb hbox hg; have p145 : 0 ≤ ((ji13) : Int) := of_decide_eq_true (by first | (with_reducible assumption) | assumption); have q145 : (ji13) < (l0.length : Int) := of_decide_eq_true (by first | (with_reducible assumption) | assumption); obtain ⟨ad145, e145, hx145_0⟩ := Kd.at_int HR0.out (ji13) p145 q145; cases e145; replace hx145_0 := (HB.out.cell (World.block_lt_of_cell? w _ hx145_0)).trans hx145_0; replace p145 := eq_true p145; replace q145 := eq_true q145) | ((with_reducible refine gate_dst (N := 42) rfl ?_); (try (refine gate_guard (by rfl) ?_; dsimp only)); refine Kd.R_lit (Kd.int .u8) _ 5 ?hg (N := 42) ?hd (xs := ([(ji16) % 256] : List Int)) (inner := [.int .u8 ((ji16) % 256)]) (ok := fun _ => True) (okp := fun _ => True) ?hr ?hp (fun _ hk => hk) trivial (Below.refl _ _) (Nat.le_refl _) (by simp) ?_; (case hd => rfl); (case hg => rfl); (case hr => first | (go_simp; done) | (go_simp; rfl)); (case hp => exact (Reps.one (show Kd.M (Kd.int .u8) _ _ _ ((ji16) % 256) [.int .u8 ((ji16) % 256)] from rfl) (Reps.none _ _))); intro v147 w22 ho23 hb hg_ hnew_; clear hg_ hnew_; (first | rw [← Ny146.out] at ho23 | (simp only [Int.reduceToNat] at ho23; rw [← Ny146.out] at ho23)); have n0_ := Aside0.mk (Kd.R_lower ho23 (below_size (by repeat (first | (with_reducible first | exact HB.out | apply below_alloc | apply pw_below_drewN | apply below_drew1 | refine below_set ?_ GE144.out) | exact HB.out)))); have n1_ := Aside0.mk (blk_below (g := gb144) (o := .cells #[.int .i64 0, .slice none 0 0, .slice none 0 0] 28 (0, 0)) (by (with_reducible repeat (first | refine blk_drewN ?_ _ | refine blk_drew ?_ | refine blk_alloc ?_ _)); exact BK144.out) hb); have n2_ := Aside0.mk (below_step (by repeat (first | (with_reducible first | exact HB.out | apply below_alloc | apply pw_below_drewN | apply below_drew1 | refine below_set ?_ GE144.out) | exact HB.out)) hb); clear BK144; clear HB; have HO148 := n0_; have BK144 := n1_; have HB := n2_; clear n0_ n1_ n2_; clear hb ho23) | ((with_reducible refine gate_builtin (b := .append) (xs := #[.tmp 42, .tmp 43]) rfl ?_); (try (refine gate_guard (by rfl) ?_; dsimp only)); at_builtin; refine Kd.R_append_rows (Kd.int .u8) (w0 := w) w.heap.size rfl (.tmp 42) (.tmp 43) 22 5 (.int .u8 0) 1 rfl Tryd.underlying22 info5 rfl (by decide) (by omega) v147 y146 l0 _ _ _ (fun _ => True) (fun _ => False) rfl rfl ?aO ?aR (fun _ _ h => h) (fun _ h => h.elim) ?aF ?aB ?aS ?aL ?_; (case aR => repeat (first | exact (Kd.C_below HR0.out HB.out) | (with_reducible refine Kd.C_alloc ?_ _) | (with_reducible refine Kd.C_drewN ?_ _) | (with_reducible refine Kd.C_drew ?_))); (case aB => exact (by repeat (first | (with_reducible first | exact HB.out | apply below_alloc | apply pw_below_drewN | apply below_drew1 | refine below_set ?_ GE144.out) | exact HB.out))); (case aF => exact (fun _ _ => trivial)); (case aO => exact (by (with_reducible repeat (first | apply Kd.R_alloc | apply Kd.R_drewN | apply Kd.R_drew)); exact HO148.out)); (case aS => exact (below_size (by repeat (first | (with_reducible first | exact HB.out | apply below_alloc | apply pw_below_drewN | apply below_drew1 | refine below_set ?_ GE144.out) | exact HB.out)))); (case aL => have := LMc20.out; omega); intro v150 w24 ho hb hg hat; rw [← Ny149.out] at ho; have n0_ := Aside0.mk (blk_grown (g := gb144) (o := .cells #[.int .i64 0, .slice none 0 0, .slice none 0 0] 28 (0, 0)) (by (with_reducible repeat (first | refine blk_drewN ?_ _ | refine blk_drew ?_ | refine blk_alloc ?_ _)); exact BK144.out) hg (Kd.R_ne HO148.out BK144.out (by decide))); have n1_ := Aside0.mk (hb); have n2_ := Aside0.mk (ho); clear BK144; clear HB; clear HO148; have BK144 := n0_; have HB := n1_; have HO151 := n2_; clear n0_ n1_ n2_; clear ho hb hg hat; obtain ⟨Ao25, co25, eo25⟩ := Kd.R_slice HO151.out; subst eo25; have hcz26_0 : w24.cell? ⟨gb144, 0, none⟩ = some (.int .i64 0) := (blk_cell BK144.out 0).trans rfl; have hcz26_1 : w24.cell? ⟨gb144, 1, none⟩ = some (.slice none 0 0) := (blk_cell BK144.out 1).trans rfl; have hcz26_2 : w24.cell? ⟨gb144, 2, none⟩ = some (.slice none 0 0) := (blk_cell BK144.out 2).trans rfl; have hfz26_0 := blk_frozen BK144.out 0; have hfz26_1 := blk_frozen BK144.out 1; have hfz26_2 := blk_frozen BK144.out 2)); try go_wp2_with (first | ((with_reducible refine gate_dst (N := 4) rfl ?_); (try (refine gate_guard (by rfl) ?_; dsimp only)); refine box_event ?hg (N := 4) ?hd (cs := #[.int .i64 0, .slice none 0 0, .slice none 0 0]) (t := 28) ?hr ?_; (case hd => rfl); (case hg => rfl); (case hr => first | (go_simp; done) | (go_simp; rfl)); intro gb144 hg w21 hbox hb; have n0_ := Aside0.mk (below_step (by repeat (first | (with_reducible first | exact HB.out | apply below_alloc | apply pw_below_drewN | apply below_drew1) | exact HB.out)) hb); have n1_ := Aside0.mk (hbox); have n2_ := Aside0.mk ((by rw [hg]; exact (below_size (by repeat (first | (with_reducible first | exact HB.out | apply below_alloc | apply pw_below_drewN | apply below_drew1) | exact HB.out))) : w.heap.size ≤ gb144)); have n3_ := Aside0.mk ((by rw [hg]; exact (below_size (by repeat (first | (with_reducible first | exact HB.out | apply below_alloc | apply pw_below_drewN | apply below_drew1) | exact HB.out))) : w.heap.size ≤ gb144)); clear HB; have HB := n0_; have BK144 := n1_; have GW144 := n2_; have GE144 := n3_; clear n0_ n1_ n2_ n3_; clear hb hbox hg; have p145 : 0 ≤ ((ji13) : Int) := of_decide_eq_true (by first | (with_reducible assumption) | assumption); have q145 : (ji13) < (l0.length : Int) := of_decide_eq_true (by first | (with_reducible assumption) | assumption); obtain ⟨ad145, e145, hx145_0⟩ := Kd.at_int HR0.out (ji13) p145 q145; cases e145; replace hx145_0 := (HB.out.cell (World.block_lt_of_cell? w _ hx145_0)).trans hx145_0; replace p145 := eq_true p145; replace q145 := eq_true q145) | ((with_reducible refine gate_dst (N := 42) rfl ?_); (try (refine gate_guard (by rfl) ?_; dsimp only)); refine Kd.R_lit (Kd.int .u8) _ 5 ?hg (N := 42) ?hd (xs := ([(ji16) % 256] : List Int)) (inner := [.int .u8 ((ji16) % 256)]) (ok := fun _ => True) (okp := fun _ => True) ?hr ?hp (fun _ hk => hk) trivial (Below.refl _ _) (Nat.le_refl _) (by simp) ?_; (case hd => rfl); (case hg => rfl); (case hr => first | (go_simp; done) | (go_simp; rfl)); (case hp => exact (Reps.one (show Kd.M (Kd.int .u8) _ _ _ ((ji16) % 256) [.int .u8 ((ji16) % 256)] from rfl) (Reps.none _ _))); intro v147 w22 ho23 hb hg_ hnew_; clear hg_ hnew_; (first | rw [← Ny146.out] at ho23 | (simp only [Int.reduceToNat] at ho23; rw [← Ny146.out] at ho23)); have n0_ := Aside0.mk (Kd.R_lower ho23 (below_size (by repeat (first | (with_reducible first | exact HB.out | apply below_alloc | apply pw_below_drewN | apply below_drew1 | refine below_set ?_ GE144.out) | exact HB.out)))); have n1_ := Aside0.mk (blk_below (g := gb144) (o := .cells #[.int .i64 0, .slice none 0 0, .slice none 0 0] 28 (0, 0)) (by (with_reducible repeat (first | refine blk_drewN ?_ _ | refine blk_drew ?_ | refine blk_alloc ?_ _)); exact BK144.out) hb); have n2_ := Aside0.mk (below_step (by repeat (first | (with_reducible first | exact HB.out | apply below_alloc | apply pw_below_drewN | apply below_drew1 | refine below_set ?_ GE144.out) | exact HB.out)) hb); clear BK144; clear HB; have HO148 := n0_; have BK144 := n1_; have HB := n2_; clear n0_ n1_ n2_; clear hb ho23) | ((with_reducible refine gate_builtin (b := .append) (xs := #[.tmp 42, .tmp 43]) rfl ?_); (try (refine gate_guard (by rfl) ?_; dsimp only)); at_builtin; refine Kd.R_append_rows (Kd.int .u8) (w0 := w) w.heap.size rfl (.tmp 42) (.tmp 43) 22 5 (.int .u8 0) 1 rfl Tryd.underlying22 info5 rfl (by decide) (by omega) v147 y146 l0 _ _ _ (fun _ => True) (fun _ => False) rfl rfl ?aO ?aR (fun _ _ h => h) (fun _ h => h.elim) ?aF ?aB ?aS ?aL ?_; (case aR => repeat (first | exact (Kd.C_below HR0.out HB.out) | (with_reducible refine Kd.C_alloc ?_ _) | (with_reducible refine Kd.C_drewN ?_ _) | (with_reducible refine Kd.C_drew ?_))); (case aB => exact (by repeat (first | (with_reducible first | exact HB.out | apply below_alloc | apply pw_below_drewN | apply below_drew1 | refine below_set ?_ GE144.out) | exact HB.out))); (case aF => exact (fun _ _ => trivial)); (case aO => exact (by (with_reducible repeat (first | apply Kd.R_alloc | apply Kd.R_drewN | apply Kd.R_drew)); exact HO148.out)); (case aS => exact (below_size (by repeat (first | (with_reducible first | exact HB.out | apply below_alloc | apply pw_below_drewN | apply below_drew1 | refine below_set ?_ GE144.out) | exact HB.out)))); (case aL => have := LMc20.out; omega); intro v150 w24 ho hb hg hat; rw [← Ny149.out] at ho; have n0_ := Aside0.mk (blk_grown (g := gb144) (o := .cells #[.int .i64 0, .slice none 0 0, .slice none 0 0] 28 (0, 0)) (by (with_reducible repeat (first | refine blk_drewN ?_ _ | refine blk_drew ?_ | refine blk_alloc ?_ _)); exact BK144.out) hg (Kd.R_ne HO148.out BK144.out (by decide))); have n1_ := Aside0.mk (hb); have n2_ := Aside0.mk (ho); clear BK144; clear HB; clear HO148; have BK144 := n0_; have HB := n1_; have HO151 := n2_; clear n0_ n1_ n2_; clear ho hb hg hat; obtain ⟨Ao25, co25, eo25⟩ := Kd.R_slice HO151.out; subst eo25; have hcz26_0 : w24.cell? ⟨gb144, 0, none⟩ = some (.int .i64 0) := (blk_cell BK144.out 0).trans rfl; have hcz26_1 : w24.cell? ⟨gb144, 1, none⟩ = some (.slice none 0 0) := (blk_cell BK144.out 1).trans rfl; have hcz26_2 : w24.cell? ⟨gb144, 2, none⟩ = some (.slice none 0 0) := (blk_cell BK144.out 2).trans rfl; have hfz26_0 := blk_frozen BK144.out 0; have hfz26_1 := blk_frozen BK144.out 1; have hfz26_2 := blk_frozen BK144.out 2)))
          refine bodyPost_ret (results_ct rfl _ _ gb144 28 #[.int .i64 3, .slice Ao25 y149.length co25, .slice none 0 0] (0, 0) _ rfl (by (with_reducible repeat (first | refine blk_drewN ?_ _ | refine blk_drew ?_ | refine blk_alloc ?_ _)); refine blk_put (cs := #[.int .i64 3, .slice Ao25 y149.length co25, .slice none 0 0]) ?_ 2 _ rfl; (with_reducible repeat (first | refine blk_drewN ?_ _ | refine blk_drew ?_ | refine blk_alloc ?_ _)); refine blk_put (cs := #[.int .i64 3, .slice none 0 0, .slice none 0 0]) ?_ 1 _ rfl; (with_reducible repeat (first | refine blk_drewN ?_ _ | refine blk_drew ?_ | refine blk_alloc ?_ _)); refine blk_put (cs := #[.int .i64 0, .slice none 0 0, .slice none 0 0]) ?_ 0 _ rfl; (with_reducible repeat (first | refine blk_drewN ?_ _ | refine blk_drew ?_ | refine blk_alloc ?_ _)); exact BK144.out) Tryd.underlying28 rfl (by kernel_rfl)) rfl ?_
          exact ⟨_, _, by first | rfl | (simp [errW_none, errW_some] <;> rfl) | (simp only [← hji13, ← hji16, ← hji18]; first | rfl | (simp [errW_none, errW_some] <;> rfl)) | (simp [*, errW_none, errW_some] <;> rfl), by (with_reducible repeat (first | apply Kd.R_alloc | apply Kd.R_drewN | apply Kd.R_drew)); exact Kd.R_mono (Kd.R_far (p := ⟨gb144, 2, none⟩) (Kd.R_far (p := ⟨gb144, 1, none⟩) (Kd.R_far (p := ⟨gb144, 0, none⟩) (Kd.R_types HO151.out BK144.out (by decide)) (fun _ hk => hk.2) (.int .i64 3)) (fun _ hk => hk.2) (.slice Ao25 y149.length co25)) (fun _ hk => hk.2) (.slice none 0 0)) (fun _ hk => trivial), by first | exact Kd.R_nil _ _ _ _ _ | exact Kd.N_nil _ _ _ _ _ | exact Kd.V_nil _ _ _ _ _ | exact Kd.Q_nil _ _ _ _ _ | exact Kd.S_nil _ _ _ _ _, by repeat (first | (with_reducible first | exact HB.out | apply below_alloc | apply pw_below_drewN | apply below_drew1 | refine below_set ?_ GE144.out) | exact HB.out)⟩
         ·rw [if_neg c20] at H
          exact absurd H (by simp)
        ·rw [if_neg c19] at H
         have c19b0 : ((Go.bits .and .u8 (rd l0 (ji13)) (((ji18) - 1) % 256)) == 0) = false := beq_eq_false_iff_ne.mpr c19
         have c19b1 : ((Go.bits .and .u8 (rd l0 (ji13)) (((ji18) - 1) % 256)) != 0) = true := bne_iff_ne.mpr c19
         simp only [Option.some.injEq, Prod.mk.injEq] at H
         obtain ⟨rfl, rfl, rfl, rfl⟩ := H
         go_enter Tryd.func32, Tryd.ntmps32
         go_wp2_with (first | ((with_reducible refine gate_dst (N := 4) rfl ?_); (try (refine gate_guard (by rfl) ?_; dsimp only)); refine box_event ?hg (N := 4) ?hd (cs := #[.int .i64 0, .slice none 0 0, .slice none 0 0]) (t := 28) ?hr ?_; (case hd => rfl); (case hg => rfl); (case hr => first | (go_simp; done) | (go_simp; rfl)); intro gb144 hg w27 hbox hb; have n0_ := Aside0.mk (below_step (by repeat (first | (with_reducible first | exact HB.out | apply below_alloc | apply pw_below_drewN | apply below_drew1) | exact HB.out)) hb); have n1_ := Aside0.mk (hbox); have n2_ := Aside0.mk ((by rw [hg]; exact (below_size (by repeat (first | (with_reducible first | exact HB.out | apply below_alloc | apply pw_below_drewN | apply below_drew1) | exact HB.out))) : w.heap.size ≤ gb144)); have n3_ := Aside0.mk ((by rw [hg]; exact (below_size (by repeat (first | (with_reducible first | exact HB.out | apply below_alloc | apply pw_below_drewN | apply below_drew1) | exact HB.out))) : w.heap.size ≤ gb144)); clear HB; have HB := n0_; have BK144 := n1_; have GW144 := n2_; have GE144 := n3_; clear n0_ n1_ n2_ n3_; clear hb hbox hg; have p145 : 0 ≤ ((ji13) : Int) := of_decide_eq_true (by first | (with_reducible assumption) | assumption); have q145 : (ji13) < (l0.length : Int) := of_decide_eq_true (by first | (with_reducible assumption) | assumption); obtain ⟨ad145, e145, hx145_0⟩ := Kd.at_int HR0.out (ji13) p145 q145; cases e145; replace hx145_0 := (HB.out.cell (World.block_lt_of_cell? w _ hx145_0)).trans hx145_0; replace p145 := eq_true p145; replace q145 := eq_true q145; have hcz28_0 : w27.cell? ⟨gb144, 0, none⟩ = some (.int .i64 0) := (blk_cell BK144.out 0).trans rfl; have hcz28_1 : w27.cell? ⟨gb144, 1, none⟩ = some (.slice none 0 0) := (blk_cell BK144.out 1).trans rfl; have hcz28_2 : w27.cell? ⟨gb144, 2, none⟩ = some (.slice none 0 0) := (blk_cell BK144.out 2).trans rfl; have hfz28_0 := blk_frozen BK144.out 0; have hfz28_1 := blk_frozen BK144.out 1; have hfz28_2 := blk_frozen BK144.out 2))
         repeat (go_quiet (first | ((with_reducible refine gate_dst (N := 4) rfl ?_); (try (refine gate_guard (by rfl) ?_; dsimp only)); refine box_event ?hg (N := 4) ?hd (cs := #[.int .i64 0, .slice none 0 0, .slice none 0 0]) (t := 28) ?hr ?_; (case hd => rfl); (case hg => rfl); (case hr => first | (go_simp; done) | (go_simp; rfl)); intro gb144 hg w27 hbox hb; have n0_ := Aside0.mk (below_step (by repeat (first | (with_reducible first | exact HB.out | apply below_alloc | apply pw_below_drewN | apply below_drew1) | exact HB.out)) hb); have n1_ := Aside0.mk (hbox); have n2_ := Aside0.mk ((by rw [hg]; exact (below_size (by repeat (first | (with_reducible first | exact HB.out | apply below_alloc | apply pw_below_drewN | apply below_drew1) | exact HB.out))) : w.heap.size ≤ gb144)); have n3_ := Aside0.mk ((by rw [hg]; exact (below_size (by repeat (first | (with_reducible first | exact HB.out | apply below_alloc | apply pw_below_drewN | apply below_drew1) | exact HB.out))) : w.heap.size ≤ gb144)); clear HB; have HB := n0_; have BK144 := n1_; have GW144 := n2_; have GE144 := n3_; clear n0_ n1_ n2_ n3_; clear hb hbox hg; have p145 : 0 ≤ ((ji13) : Int) := of_decide_eq_true (by first | (with_reducible assumption) | assumption); have q145 : (ji13) < (l0.length : Int) := of_decide_eq_true (by first | (with_reducible assumption) | assumption); obtain ⟨ad145, e145, hx145_0⟩ := Kd.at_int HR0.out (ji13) p145 q145; cases e145; replace hx145_0 := (HB.out.cell (World.block_lt_of_cell? w _ hx145_0)).trans hx145_0; replace p145 := eq_true p145; replace q145 := eq_true q145; have hcz28_0 : w27.cell? ⟨gb144, 0, none⟩ = some (.int .i64 0) := (blk_cell BK144.out 0).trans rfl; have hcz28_1 : w27.cell? ⟨gb144, 1, none⟩ = some (.slice none 0 0) := (blk_cell BK144.out 1).trans rfl; have hcz28_2 : w27.cell? ⟨gb144, 2, none⟩ = some (.slice none 0 0) := (blk_cell BK144.out 2).trans rfl; have hfz28_0 := blk_frozen BK144.out 0; have hfz28_1 := blk_frozen BK144.out 1; have hfz28_2 := blk_frozen BK144.out 2)); try go_wp2_with (first | ((with_reducible refine gate_dst (N := 4) rfl ?_); (try (refine gate_guard (by rfl) ?_; dsimp only)); refine box_event ?hg (N := 4) ?hd (cs := #[.int .i64 0, .slice none 0 0, .slice none 0 0]) (t := 28) ?hr ?_; (case hd => rfl); (case hg => rfl); (case hr => first | (go_simp; done) | (go_simp; rfl)); intro gb144 hg w27 hbox hb; have n0_ := Aside0.mk (below_step (by repeat (first | (with_reducible first | exact HB.out | apply below_alloc | apply pw_below_drewN | apply below_drew1) | exact HB.out)) hb); have n1_ := Aside0.mk (hbox); have n2_ := Aside0.mk ((by rw [hg]; exact (below_size (by repeat (first | (with_reducible first | exact HB.out | apply below_alloc | apply pw_below_drewN | apply below_drew1) | exact HB.out))) : w.heap.size ≤ gb144)); have n3_ := Aside0.mk ((by rw [hg]; exact (below_size (by repeat (first | (with_reducible first | exact HB.out | apply below_alloc | apply pw_below_drewN | apply below_drew1) | exact HB.out))) : w.heap.size ≤ gb144)); clear HB; have HB := n0_; have BK144 := n1_; have GW144 := n2_; have GE144 := n3_; clear n0_ n1_ n2_ n3_; clear hb hbox hg; have p145 : 0 ≤ ((ji13) : Int) := of_decide_eq_true (by first | (with_reducible assumption) | assumption); have q145 : (ji13) < (l0.length : Int) := of_decide_eq_true (by first | (with_reducible assumption) | assumption); obtain ⟨ad145, e145, hx145_0⟩ := Kd.at_int HR0.out (ji13) p145 q145; cases e145; replace hx145_0 := (HB.out.cell (World.block_lt_of_cell? w _ hx145_0)).trans hx145_0; replace p145 := eq_true p145; replace q145 := eq_true q145; have hcz28_0 : w27.cell? ⟨gb144, 0, none⟩ = some (.int .i64 0) := (blk_cell BK144.out 0).trans rfl; have hcz28_1 : w27.cell? ⟨gb144, 1, none⟩ = some (.slice none 0 0) := (blk_cell BK144.out 1).trans rfl; have hcz28_2 : w27.cell? ⟨gb144, 2, none⟩ = some (.slice none 0 0) := (blk_cell BK144.out 2).trans rfl; have hfz28_0 := blk_frozen BK144.out 0; have hfz28_1 := blk_frozen BK144.out 1; have hfz28_2 := blk_frozen BK144.out 2)))
         refine bodyPost_ret (results_ct rfl _ _ gb144 28 #[.int .i64 0, .slice none 0 0, .slice none 0 0] (0, 0) _ rfl (by (with_reducible repeat (first | refine blk_drewN ?_ _ | refine blk_drew ?_ | refine blk_alloc ?_ _)); refine blk_put (cs := #[.int .i64 0, .slice none 0 0, .slice none 0 0]) ?_ 2 _ rfl; (with_reducible repeat (first | refine blk_drewN ?_ _ | refine blk_drew ?_ | refine blk_alloc ?_ _)); refine blk_put (cs := #[.int .i64 0, .slice none 0 0, .slice none 0 0]) ?_ 1 _ rfl; (with_reducible repeat (first | refine blk_drewN ?_ _ | refine blk_drew ?_ | refine blk_alloc ?_ _)); refine blk_put (cs := #[.int .i64 0, .slice none 0 0, .slice none 0 0]) ?_ 0 _ rfl; (with_reducible repeat (first | refine blk_drewN ?_ _ | refine blk_drew ?_ | refine blk_alloc ?_ _)); exact BK144.out) Tryd.underlying28 rfl (by kernel_rfl)) rfl ?_
         exact ⟨_, _, by first | rfl | (simp [errW_none, errW_some] <;> rfl) | (simp only [← hji13, ← hji16, ← hji18]; first | rfl | (simp [errW_none, errW_some] <;> rfl)) | (simp [*, errW_none, errW_some] <;> rfl), by first | exact Kd.R_nil _ _ _ _ _ | exact Kd.N_nil _ _ _ _ _ | exact Kd.V_nil _ _ _ _ _ | exact Kd.Q_nil _ _ _ _ _ | exact Kd.S_nil _ _ _ _ _, by first | exact Kd.R_nil _ _ _ _ _ | exact Kd.N_nil _ _ _ _ _ | exact Kd.V_nil _ _ _ _ _ | exact Kd.Q_nil _ _ _ _ _ | exact Kd.S_nil _ _ _ _ _, by repeat (first | (with_reducible first | exact HB.out | apply below_alloc | apply pw_below_drewN | apply below_drew1 | refine below_set ?_ GE144.out) | exact HB.out)⟩
       ·rw [if_neg c17] at H
        exact absurd H (by simp)
      ·rw [if_neg c15] at H
       exact absurd H (by simp)
     ·rw [if_neg c14] at H
      exact absurd H (by simp)
    ·rw [if_neg c12] at H
     have c12b0 : decide (0 < (wrap64 ((wrap64 (8 * (l0.length : Int))) - a1))) = false := decide_eq_false c12
     clear c12
     obtain ⟨y152, hy152⟩ : ∃ y_ : List Int, y_ = (([(wrap64 ((wrap64 (8 * (l0.length : Int))) - a1)) % 256] : List Int)) := ⟨_, rfl⟩
     replace H : (if y152.length + l0.length < 140737488355328 then (some (3, (y152 ++ l0), ([] : List (S28)), 0)) else (none)) = some (r1, r2, r3, r4) := by first | (rw [hy152]; with_reducible exact H) | (have H2_ := (Option.bind_some _ _).symm.trans H; rw [hy152]; with_reducible exact H2_) | (have H2_ := (Option.bind_some _ _).symm.trans H; with_reducible exact H2_) | with_reducible exact H | (rw [hy152]; exact H) | exact H
     have Ny152 := Aside0.mk hy152
     clear hy152
     by_cases c29 : y152.length + l0.length < 140737488355328
     ·rw [if_pos c29] at H
      have LMc29 := Aside0.mk c29
      clear c29
      obtain ⟨y155, hy155⟩ : ∃ y_ : List Int, y_ = (y152 ++ l0) := ⟨_, rfl⟩
      replace H : (some (3, y155, ([] : List (S28)), 0)) = some (r1, r2, r3, r4) := by first | (rw [hy155]; with_reducible exact H) | (have H2_ := (Option.bind_some _ _).symm.trans H; rw [hy155]; with_reducible exact H2_) | (have H2_ := (Option.bind_some _ _).symm.trans H; with_reducible exact H2_) | with_reducible exact H | (rw [hy155]; exact H) | exact H
      have Ny155 := Aside0.mk hy155
      clear hy155
      simp only [Option.some.injEq, Prod.mk.injEq] at H
      obtain ⟨rfl, rfl, rfl, rfl⟩ := H
      go_enter Tryd.func32, Tryd.ntmps32
      go_wp2_with (first | ((with_reducible refine gate_dst (N := 4) rfl ?_); (try (refine gate_guard (by rfl) ?_; dsimp only)); refine box_event ?hg (N := 4) ?hd (cs := #[.int .i64 0, .slice none 0 0, .slice none 0 0]) (t := 28) ?hr ?_; (case hd => rfl); (case hg => rfl); (case hr => first | (go_simp; done) | (go_simp; rfl)); intro gb144 hg w30 hbox hb; have n0_ := Aside0.mk (below_step (by repeat (first | (with_reducible first | exact HB.out | apply below_alloc | apply pw_below_drewN | apply below_drew1) | exact HB.out)) hb); have n1_ := Aside0.mk (hbox); have n2_ := Aside0.mk ((by rw [hg]; exact (below_size (by repeat (first | (with_reducible first | exact HB.out | apply below_alloc | apply pw_below_drewN | apply below_drew1) | exact HB.out))) : w.heap.size ≤ gb144)); have n3_ := Aside0.mk ((by rw [hg]; exact (below_size (by repeat (first | (with_reducible first | exact HB.out | apply below_alloc | apply pw_below_drewN | apply below_drew1) | exact HB.out))) : w.heap.size ≤ gb144)); clear HB; have HB := n0_; have BK144 := n1_; have GW144 := n2_; have GE144 := n3_; clear n0_ n1_ n2_ n3_; clear hb hbox hg) | ((with_reducible refine gate_dst (N := 42) rfl ?_); (try (refine gate_guard (by rfl) ?_; dsimp only)); refine Kd.R_lit (Kd.int .u8) _ 5 ?hg (N := 42) ?hd (xs := ([(wrap64 ((wrap64 (8 * (l0.length : Int))) - a1)) % 256] : List Int)) (inner := [.int .u8 ((wrap64 ((wrap64 (8 * (l0.length : Int))) - a1)) % 256)]) (ok := fun _ => True) (okp := fun _ => True) ?hr ?hp (fun _ hk => hk) trivial (Below.refl _ _) (Nat.le_refl _) (by simp) ?_; (case hd => rfl); (case hg => rfl); (case hr => first | (go_simp; done) | (go_simp; rfl)); (case hp => exact (Reps.one (show Kd.M (Kd.int .u8) _ _ _ ((wrap64 ((wrap64 (8 * (l0.length : Int))) - a1)) % 256) [.int .u8 ((wrap64 ((wrap64 (8 * (l0.length : Int))) - a1)) % 256)] from rfl) (Reps.none _ _))); intro v153 w31 ho32 hb hg_ hnew_; clear hg_ hnew_; (first | rw [← Ny152.out] at ho32 | (simp only [Int.reduceToNat] at ho32; rw [← Ny152.out] at ho32)); have n0_ := Aside0.mk (Kd.R_lower ho32 (below_size (by repeat (first | (with_reducible first | exact HB.out | apply below_alloc | apply pw_below_drewN | apply below_drew1 | refine below_set ?_ GE144.out) | exact HB.out)))); have n1_ := Aside0.mk (blk_below (g := gb144) (o := .cells #[.int .i64 0, .slice none 0 0, .slice none 0 0] 28 (0, 0)) (by (with_reducible repeat (first | refine blk_drewN ?_ _ | refine blk_drew ?_ | refine blk_alloc ?_ _)); exact BK144.out) hb); have n2_ := Aside0.mk (below_step (by repeat (first | (with_reducible first | exact HB.out | apply below_alloc | apply pw_below_drewN | apply below_drew1 | refine below_set ?_ GE144.out) | exact HB.out)) hb); clear BK144; clear HB; have HO154 := n0_; have BK144 := n1_; have HB := n2_; clear n0_ n1_ n2_; clear hb ho32) | ((with_reducible refine gate_builtin (b := .append) (xs := #[.tmp 42, .tmp 43]) rfl ?_); (try (refine gate_guard (by rfl) ?_; dsimp only)); at_builtin; refine Kd.R_append_rows (Kd.int .u8) (w0 := w) w.heap.size rfl (.tmp 42) (.tmp 43) 22 5 (.int .u8 0) 1 rfl Tryd.underlying22 info5 rfl (by decide) (by omega) v153 y152 l0 _ _ _ (fun _ => True) (fun _ => False) rfl rfl ?aO ?aR (fun _ _ h => h) (fun _ h => h.elim) ?aF ?aB ?aS ?aL ?_; (case aR => repeat (first | exact (Kd.C_below HR0.out HB.out) | (with_reducible refine Kd.C_alloc ?_ _) | (with_reducible refine Kd.C_drewN ?_ _) | (with_reducible refine Kd.C_drew ?_))); (case aB => exact (by repeat (first | (with_reducible first | exact HB.out | apply below_alloc | apply pw_below_drewN | apply below_drew1 | refine below_set ?_ GE144.out) | exact HB.out))); (case aF => exact (fun _ _ => trivial)); (case aO => exact (by (with_reducible repeat (first | apply Kd.R_alloc | apply Kd.R_drewN | apply Kd.R_drew)); exact HO154.out)); (case aS => exact (below_size (by repeat (first | (with_reducible first | exact HB.out | apply below_alloc | apply pw_below_drewN | apply below_drew1 | refine below_set ?_ GE144.out) | exact HB.out)))); (case aL => have := LMc29.out; omega); intro v156 w33 ho hb hg hat; rw [← Ny155.out] at ho; have n0_ := Aside0.mk (blk_grown (g := gb144) (o := .cells #[.int .i64 0, .slice none 0 0, .slice none 0 0] 28 (0, 0)) (by (with_reducible repeat (first | refine blk_drewN ?_ _ | refine blk_drew ?_ | refine blk_alloc ?_ _)); exact BK144.out) hg (Kd.R_ne HO154.out BK144.out (by decide))); have n1_ := Aside0.mk (hb); have n2_ := Aside0.mk (ho); clear BK144; clear HB; clear HO154; have BK144 := n0_; have HB := n1_; have HO157 := n2_; clear n0_ n1_ n2_; clear ho hb hg hat; obtain ⟨Ao34, co34, eo34⟩ := Kd.R_slice HO157.out; subst eo34; have hcz35_0 : w33.cell? ⟨gb144, 0, none⟩ = some (.int .i64 0) := (blk_cell BK144.out 0).trans rfl; have hcz35_1 : w33.cell? ⟨gb144, 1, none⟩ = some (.slice none 0 0) := (blk_cell BK144.out 1).trans rfl; have hcz35_2 : w33.cell? ⟨gb144, 2, none⟩ = some (.slice none 0 0) := (blk_cell BK144.out 2).trans rfl; have hfz35_0 := blk_frozen BK144.out 0; have hfz35_1 := blk_frozen BK144.out 1; have hfz35_2 := blk_frozen BK144.out 2))
      repeat (go_quiet (first | ((with_reducible refine gate_dst (N := 4) rfl ?_); (try (refine gate_guard (by rfl) ?_; dsimp only)); refine box_event ?hg (N := 4) ?hd (cs := #[.int .i64 0, .slice none 0 0, .slice none 0 0]) (t := 28) ?hr ?_; (case hd => rfl); (case hg => rfl); (case hr => first | (go_simp; done) | (go_simp; rfl)); intro gb144 hg w30 hbox hb; have n0_ := Aside0.mk (below_step (by repeat (first | (with_reducible first | exact HB.out | apply below_alloc | apply pw_below_drewN | apply below_drew1) | exact HB.out)) hb); have n1_ := Aside0.mk (hbox); have n2_ := Aside0.mk ((by rw [hg]; exact (below_size (by repeat (first | (with_reducible first | exact HB.out | apply below_alloc | apply pw_below_drewN | apply below_drew1) | exact HB.out))) : w.heap.size ≤ gb144)); have n3_ := Aside0.mk ((by rw [hg]; exact (below_size (by repeat (first | (with_reducible first | exact HB.out | apply below_alloc | apply pw_below_drewN | apply below_drew1) | exact HB.out))) : w.heap.size ≤ gb144)); clear HB; have HB := n0_; have BK144 := n1_; have GW144 := n2_; have GE144 := n3_; clear n0_ n1_ n2_ n3_; clear hb hbox hg) | ((with_reducible refine gate_dst (N := 42) rfl ?_); (try (refine gate_guard (by rfl) ?_; dsimp only)); refine Kd.R_lit (Kd.int .u8) _ 5 ?hg (N := 42) ?hd (xs := ([(wrap64 ((wrap64 (8 * (l0.length : Int))) - a1)) % 256] : List Int)) (inner := [.int .u8 ((wrap64 ((wrap64 (8 * (l0.length : Int))) - a1)) % 256)]) (ok := fun _ => True) (okp := fun _ => True) ?hr ?hp (fun _ hk => hk) trivial (Below.refl _ _) (Nat.le_refl _) (by simp) ?_; (case hd => rfl); (case hg => rfl); (case hr => first | (go_simp; done) | (go_simp; rfl)); (case hp => exact (Reps.one (show Kd.M (Kd.int .u8) _ _ _ ((wrap64 ((wrap64 (8 * (l0.length : Int))) - a1)) % 256) [.int .u8 ((wrap64 ((wrap64 (8 * (l0.length : Int))) - a1)) % 256)] from rfl) (Reps.none _ _))); intro v153 w31 ho32 hb hg_ hnew_; clear hg_ hnew_; (first | rw [← Ny152.out] at ho32 | (simp only [Int.reduceToNat] at ho32; rw [← Ny152.out] at ho32)); have n0_ := Aside0.mk (Kd.R_lower ho32 (below_size (by repeat (first | (with_reducible first | exact HB.out | apply below_alloc | apply pw_below_drewN | apply below_drew1 | refine below_set ?_ GE144.out) | exact HB.out)))); have n1_ := Aside0.mk (blk_below (g := gb144) (o := .cells #[.int .i64 0, .slice none 0 0, .slice none 0 0] 28 (0, 0)) (by (with_reducible repeat (first | refine blk_drewN ?_ _ | refine blk_drew ?_ | refine blk_alloc ?_ _)); exact BK144.out) hb); have n2_ := Aside0.mk (below_step (by repeat (first | (with_reducible first | exact HB.out | apply below_alloc | apply pw_below_drewN | apply below_drew1 | refine below_set ?_ GE144.out) | exact HB.out)) hb); clear BK144; clear HB; have HO154 := n0_; have BK144 := n1_; have HB := n2_; clear n0_ n1_ n2_; clear hb ho32) | ((with_reducible refine gate_builtin (b := .append) (xs := #[.tmp 42, .tmp 43]) rfl ?_); (try (refine gate_guard (by rfl) ?_; dsimp only)); at_builtin; refine Kd.R_append_rows (Kd.int .u8) (w0 := w) w.heap.size rfl (.tmp 42) (.tmp 43) 22 5 (.int .u8 0) 1 rfl Tryd.underlying22 info5 rfl (by decide) (by omega) v153 y152 l0 _ _ _ (fun _ => True) (fun _ => False) rfl rfl ?aO ?aR (fun _ _ h => h) (fun _ h => h.elim) ?aF ?aB ?aS ?aL ?_; (case aR => repeat (first | exact (Kd.C_below HR0.out HB.out) | (with_reducible refine Kd.C_alloc ?_ _) | (with_reducible refine Kd.C_drewN ?_ _) | (with_reducible refine Kd.C_drew ?_))); (case aB => exact (by repeat (first | (with_reducible first | exact HB.out | apply below_alloc | apply pw_below_drewN | apply below_drew1 | refine below_set ?_ GE144.out) | exact HB.out))); (case aF => exact (fun _ _ => trivial)); (case aO => exact (by (with_reducible repeat (first | apply Kd.R_alloc | apply Kd.R_drewN | apply Kd.R_drew)); exact HO154.out)); (case aS => exact (below_size (by repeat (first | (with_reducible first | exact HB.out | apply below_alloc | apply pw_below_drewN | apply below_drew1 | refine below_set ?_ GE144.out) | exact HB.out)))); (case aL => have := LMc29.out; omega); intro v156 w33 ho hb hg hat; rw [← Ny155.out] at ho; have n0_ := Aside0.mk (blk_grown (g := gb144) (o := .cells #[.int .i64 0, .slice none 0 0, .slice none 0 0] 28 (0, 0)) (by (with_reducible repeat (first | refine blk_drewN ?_ _ | refine blk_drew ?_ | refine blk_alloc ?_ _)); exact BK144.out) hg (Kd.R_ne HO154.out BK144.out (by decide))); have n1_ := Aside0.mk (hb); have n2_ := Aside0.mk (ho); clear BK144; clear HB; clear HO154; have BK144 := n0_; have HB := n1_; have HO157 := n2_; clear n0_ n1_ n2_; clear ho hb hg hat; obtain ⟨Ao34, co34, eo34⟩ := Kd.R_slice HO157.out; subst eo34; have hcz35_0 : w33.cell? ⟨gb144, 0, none⟩ = some (.int .i64 0) := (blk_cell BK144.out 0).trans rfl; have hcz35_1 : w33.cell? ⟨gb144, 1, none⟩ = some (.slice none 0 0) := (blk_cell BK144.out 1).trans rfl; have hcz35_2 : w33.cell? ⟨gb144, 2, none⟩ = some (.slice none 0 0) := (blk_cell BK144.out 2).trans rfl; have hfz35_0 := blk_frozen BK144.out 0; have hfz35_1 := blk_frozen BK144.out 1; have hfz35_2 := blk_frozen BK144.out 2)); try go_wp2_with (first | ((with_reducible refine gate_dst (N := 4) rfl ?_); (try (refine gate_guard (by rfl) ?_; dsimp only)); refine box_event ?hg (N := 4) ?hd (cs := #[.int .i64 0, .slice none 0 0, .slice none 0 0]) (t := 28) ?hr ?_; (case hd => rfl); (case hg => rfl); (case hr => first | (go_simp; done) | (go_simp; rfl)); intro gb144 hg w30 hbox hb; have n0_ := Aside0.mk (below_step (by repeat (first | (with_reducible first | exact HB.out | apply below_alloc | apply pw_below_drewN | apply below_drew1) | exact HB.out)) hb); have n1_ := Aside0.mk (hbox); have n2_ := Aside0.mk ((by rw [hg]; exact (below_size (by repeat (first | (with_reducible first | exact HB.out | apply below_alloc | apply pw_below_drewN | apply below_drew1) | exact HB.out))) : w.heap.size ≤ gb144)); have n3_ := Aside0.mk ((by rw [hg]; exact (below_size (by repeat (first | (with_reducible first | exact HB.out | apply below_alloc | apply pw_below_drewN | apply below_drew1) | exact HB.out))) : w.heap.size ≤ gb144)); clear HB; have HB := n0_; have BK144 := n1_; have GW144 := n2_; have GE144 := n3_; clear n0_ n1_ n2_ n3_; clear hb hbox hg) | ((with_reducible refine gate_dst (N := 42) rfl ?_); (try (refine gate_guard (by rfl) ?_; dsimp only)); refine Kd.R_lit (Kd.int .u8) _ 5 ?hg (N := 42) ?hd (xs := ([(wrap64 ((wrap64 (8 * (l0.length : Int))) - a1)) % 256] : List Int)) (inner := [.int .u8 ((wrap64 ((wrap64 (8 * (l0.length : Int))) - a1)) % 256)]) (ok := fun _ => True) (okp := fun _ => True) ?hr ?hp (fun _ hk => hk) trivial (Below.refl _ _) (Nat.le_refl _) (by simp) ?_; (case hd => rfl); (case hg => rfl); (case hr => first | (go_simp; done) | (go_simp; rfl)); (case hp => exact (Reps.one (show Kd.M (Kd.int .u8) _ _ _ ((wrap64 ((wrap64 (8 * (l0.length : Int))) - a1)) % 256) [.int .u8 ((wrap64 ((wrap64 (8 * (l0.length : Int))) - a1)) % 256)] from rfl) (Reps.none _ _))); intro v153 w31 ho32 hb hg_ hnew_; clear hg_ hnew_; (first | rw [← Ny152.out] at ho32 | (simp only [Int.reduceToNat] at ho32; rw [← Ny152.out] at ho32)); have n0_ := Aside0.mk (Kd.R_lower ho32 (below_size (by repeat (first | (with_reducible first | exact HB.out | apply below_alloc | apply pw_below_drewN | apply below_drew1 | refine below_set ?_ GE144.out) | exact HB.out)))); have n1_ := Aside0.mk (blk_below (g := gb144) (o := .cells #[.int .i64 0, .slice none 0 0, .slice none 0 0] 28 (0, 0)) (by (with_reducible repeat (first | refine blk_drewN ?_ _ | refine blk_drew ?_ | refine blk_alloc ?_ _)); exact BK144.out) hb); have n2_ := Aside0.mk (below_step (by repeat (first | (with_reducible first | exact HB.out | apply below_alloc | apply pw_below_drewN | apply below_drew1 | refine below_set ?_ GE144.out) | exact HB.out)) hb); clear BK144; clear HB; have HO154 := n0_; have BK144 := n1_; have HB := n2_; clear n0_ n1_ n2_; clear hb ho32) | ((with_reducible refine gate_builtin (b := .append) (xs := #[.tmp 42, .tmp 43]) rfl ?_); (try (refine gate_guard (by rfl) ?_; dsimp only)); at_builtin; refine Kd.R_append_rows (Kd.int .u8) (w0 := w) w.heap.size rfl (.tmp 42) (.tmp 43) 22 5 (.int .u8 0) 1 rfl Tryd.underlying22 info5 rfl (by decide) (by omega) v153 y152 l0 _ _ _ (fun _ => True) (fun _ => False) rfl rfl ?aO ?aR (fun _ _ h => h) (fun _ h => h.elim) ?aF ?aB ?aS ?aL ?_; (case aR => repeat (first | exact (Kd.C_below HR0.out HB.out) | (with_reducible refine Kd.C_alloc ?_ _) | (with_reducible refine Kd.C_drewN ?_ _) | (with_reducible refine Kd.C_drew ?_))); (case aB => exact (by repeat (first | (with_reducible first | exact HB.out | apply below_alloc | apply pw_below_drewN | apply below_drew1 | refine below_set ?_ GE144.out) | exact HB.out))); (case aF => exact (fun _ _ => trivial)); (case aO => exact (by (with_reducible repeat (first | apply Kd.R_alloc | apply Kd.R_drewN | apply Kd.R_drew)); exact HO154.out)); (case aS => exact (below_size (by repeat (first | (with_reducible first | exact HB.out | apply below_alloc | apply pw_below_drewN | apply below_drew1 | refine below_set ?_ GE144.out) | exact HB.out)))); (case aL => have := LMc29.out; omega); intro v156 w33 ho hb hg hat; rw [← Ny155.out] at ho; have n0_ := Aside0.mk (blk_grown (g := gb144) (o := .cells #[.int .i64 0, .slice none 0 0, .slice none 0 0] 28 (0, 0)) (by (with_reducible repeat (first | refine blk_drewN ?_ _ | refine blk_drew ?_ | refine blk_alloc ?_ _)); exact BK144.out) hg (Kd.R_ne HO154.out BK144.out (by decide))); have n1_ := Aside0.mk (hb); have n2_ := Aside0.mk (ho); clear BK144; clear HB; clear HO154; have BK144 := n0_; have HB := n1_; have HO157 := n2_; clear n0_ n1_ n2_; clear ho hb hg hat; obtain ⟨Ao34, co34, eo34⟩ := Kd.R_slice HO157.out; subst eo34; have hcz35_0 : w33.cell? ⟨gb144, 0, none⟩ = some (.int .i64 0) := (blk_cell BK144.out 0).trans rfl; have hcz35_1 : w33.cell? ⟨gb144, 1, none⟩ = some (.slice none 0 0) := (blk_cell BK144.out 1).trans rfl; have hcz35_2 : w33.cell? ⟨gb144, 2, none⟩ = some (.slice none 0 0) := (blk_cell BK144.out 2).trans rfl; have hfz35_0 := blk_frozen BK144.out 0; have hfz35_1 := blk_frozen BK144.out 1; have hfz35_2 := blk_frozen BK144.out 2)))
      refine bodyPost_ret (results_ct rfl _ _ gb144 28 #[.int .i64 3, .slice Ao34 y155.length co34, .slice none 0 0] (0, 0) _ rfl (by (with_reducible repeat (first | refine blk_drewN ?_ _ | refine blk_drew ?_ | refine blk_alloc ?_ _)); refine blk_put (cs := #[.int .i64 3, .slice Ao34 y155.length co34, .slice none 0 0]) ?_ 2 _ rfl; (with_reducible repeat (first | refine blk_drewN ?_ _ | refine blk_drew ?_ | refine blk_alloc ?_ _)); refine blk_put (cs := #[.int .i64 3, .slice none 0 0, .slice none 0 0]) ?_ 1 _ rfl; (with_reducible repeat (first | refine blk_drewN ?_ _ | refine blk_drew ?_ | refine blk_alloc ?_ _)); refine blk_put (cs := #[.int .i64 0, .slice none 0 0, .slice none 0 0]) ?_ 0 _ rfl; (with_reducible repeat (first | refine blk_drewN ?_ _ | refine blk_drew ?_ | refine blk_alloc ?_ _)); exact BK144.out) Tryd.underlying28 rfl (by kernel_rfl)) rfl ?_
      exact ⟨_, _, by first | rfl | (simp [errW_none, errW_some] <;> rfl) | (simp [*, errW_none, errW_some] <;> rfl), by (with_reducible repeat (first | apply Kd.R_alloc | apply Kd.R_drewN | apply Kd.R_drew)); exact Kd.R_mono (Kd.R_far (p := ⟨gb144, 2, none⟩) (Kd.R_far (p := ⟨gb144, 1, none⟩) (Kd.R_far (p := ⟨gb144, 0, none⟩) (Kd.R_types HO157.out BK144.out (by decide)) (fun _ hk => hk.2) (.int .i64 3)) (fun _ hk => hk.2) (.slice Ao34 y155.length co34)) (fun _ hk => hk.2) (.slice none 0 0)) (fun _ hk => trivial), by first | exact Kd.R_nil _ _ _ _ _ | exact Kd.N_nil _ _ _ _ _ | exact Kd.V_nil _ _ _ _ _ | exact Kd.Q_nil _ _ _ _ _ | exact Kd.S_nil _ _ _ _ _, by repeat (first | (with_reducible first | exact HB.out | apply below_alloc | apply pw_below_drewN | apply below_drew1 | refine below_set ?_ GE144.out) | exact HB.out)⟩
     ·rw [if_neg c29] at H
      exact absurd H (by simp)

end Go.Proofs.YtmbgjhkemlliaaaDoor.PT
end

section
namespace Go.Proofs.YtmbgjhkemlliaaaDoor.PT
open Go.RowKit Go.Proofs.YtmbgjhkemlliaaaDoorW.PrintWords Go.Proofs.YtmbgjhkemlliaaaDoorW.PrintLast Go.Proofs.YtmbgjhkemlliaaaDoorW.PrintMore
attribute [local go_sem] max2_int min2_int max_two min_two max_three min_three max_four min_four   -- for this text's walks alone
set_option linter.unusedVariables false
set_option linter.unusedSimpArgs false

def spki_whole.f (l0 : List Int) : Option (Int × List Int × (List (S28))) := (scalar_Bits.f l0 (wrap64 (8 * (l0.length : Int)))).bind fun bt159 => (some (bt159.1, bt159.2.1, bt159.2.2.1))
set_option maxHeartbeats 8000000 in
set_option maxRecDepth 100000 in
theorem spki_whole.calls (A0 : Option Addr) (c0 : Nat) (l0 : List Int) (r1 : Int) (r2 : List Int) (r3 : List (S28)) (w : World) (hr0 : Kd.C (Kd.int .u8) w A0 l0.length l0) (hc0 : l0.length ≤ c0) (h : spki_whole.f l0 = some (r1, r2, r3)) :
 Calls Tryd.prog 18 #[.slice A0 l0.length c0] w fun e w' => ∃ v1_ v2_ : Value, e = .returned (.agg #[.int .i64 r1, v1_, v2_]) ∧ Kd.R (Kd.int .u8) 5 w' w.heap.size (fun _ => True) v1_ r2 ∧ Kd.R k28 28 w' w.heap.size (fun k_ => some k_ ≠ (v1_ : Value).ownBlock) v2_ r3 ∧ Below w.heap.size w w' := by
 have hu28 := Tryd.underlying28
 have HR0 := Aside0.mk hr0
 have HC0 := Aside0.mk hc0
 clear hr0 hc0
 have HB := Aside0.mk (Below.refl w.heap.size w)
 have H : ((scalar_Bits.f l0 (wrap64 (8 * (l0.length : Int)))).bind fun bt159 => (some (bt159.1, bt159.2.1, bt159.2.2.1))) = some (r1, r2, r3) := h
 clear h
 replace H := Option.bind_eq_some_iff.mp H
 obtain ⟨⟨t159, t160, t163, t166⟩, A20, H⟩ := H
 replace H : (some (t159, t160, t163)) = some (r1, r2, r3) := H
 have A2 := Aside0.mk A20
 clear A20
 simp only [Option.some.injEq, Prod.mk.injEq] at H
 obtain ⟨rfl, rfl, rfl⟩ := H
 go_enter Tryd.func18, Tryd.ntmps18
 go_wp2_with (first | ((with_reducible refine gate_dst (N := 2) rfl ?_); refine box_event ?hg (N := 2) ?hd (cs := #[.int .i64 0, .slice none 0 0, .slice none 0 0]) (t := 28) ?hr ?_; (case hd => rfl); (case hg => rfl); (case hr => first | (go_simp; done) | (go_simp; rfl)); intro gb158 hg w3 hbox hb; have n0_ := Aside0.mk (below_step (by repeat (first | (with_reducible first | exact HB.out | apply below_alloc | apply pw_below_drewN | apply below_drew1) | exact HB.out)) hb); have n1_ := Aside0.mk (hbox); have n2_ := Aside0.mk ((by rw [hg]; exact (below_size (by repeat (first | (with_reducible first | exact HB.out | apply below_alloc | apply pw_below_drewN | apply below_drew1) | exact HB.out))) : w.heap.size ≤ gb158)); have n3_ := Aside0.mk ((by rw [hg]; exact (below_size (by repeat (first | (with_reducible first | exact HB.out | apply below_alloc | apply pw_below_drewN | apply below_drew1) | exact HB.out))) : w.heap.size ≤ gb158)); clear HB; have HB := n0_; have BK158 := n1_; have GW158 := n2_; have GE158 := n3_; clear n0_ n1_ n2_ n3_; clear hb hbox hg) | ((with_reducible refine gate_callee (f := 32) rfl ?_); refine goesL_ (some 10) rfl rfl Tryd.func32 (by kernel_rfl) rfl #[.slice A0 l0.length c0, .int .i64 (wrap64 (8 * (l0.length : Int)))] rfl (by (try simp only [List.map_toArray, List.map_cons, List.map_nil]); first | done | rfl | (simp only [List.length_drop, List.length_take]; rfl)) ?_; (with_reducible refine (scalar_Bits.calls _ _ l0 (wrap64 (8 * (l0.length : Int))) t159 t160 t163 t166 _ ?side1 ?side2 A2.out).mono ?_); (case side1 => repeat (first | exact (Kd.C_below HR0.out HB.out) | (with_reducible refine Kd.C_alloc ?_ _) | (with_reducible refine Kd.C_drewN ?_ _) | (with_reducible refine Kd.C_drew ?_))); (case side2 => exact HC0.out); rintro e w4 ⟨v161, v164, rfl, ho0, ho1, hb⟩; refine ⟨_, rfl, ?_⟩; have n0_ := Aside0.mk (Kd.R_lower ho0 (below_size (by repeat (first | (with_reducible first | exact HB.out | apply below_alloc | apply pw_below_drewN | apply below_drew1 | refine below_set ?_ GE158.out) | exact HB.out)))); have n1_ := Aside0.mk (Kd.R_lower (Kd.R_newB ho1 (g := gb158) (o := .cells #[.int .i64 0, .slice none 0 0, .slice none 0 0] 28 (0, 0)) (by (with_reducible repeat (first | refine blk_drewN ?_ _ | refine blk_drew ?_ | refine blk_alloc ?_ _)); exact BK158.out)) (below_size (by repeat (first | (with_reducible first | exact HB.out | apply below_alloc | apply pw_below_drewN | apply below_drew1 | refine below_set ?_ GE158.out) | exact HB.out)))); have n2_ := Aside0.mk (blk_below (g := gb158) (o := .cells #[.int .i64 0, .slice none 0 0, .slice none 0 0] 28 (0, 0)) (by (with_reducible repeat (first | refine blk_drewN ?_ _ | refine blk_drew ?_ | refine blk_alloc ?_ _)); exact BK158.out) hb); have n3_ := Aside0.mk (below_step (by repeat (first | (with_reducible first | exact HB.out | apply below_alloc | apply pw_below_drewN | apply below_drew1 | refine below_set ?_ GE158.out) | exact HB.out)) hb); clear BK158; clear HB; have HO162 := n0_; have HO165 := n1_; have BK158 := n2_; have HB := n3_; clear n0_ n1_ n2_ n3_; (try clear hb); (try clear hb2); (try clear hk); (try clear hi); (try clear ho0); (try clear ho1)) | ((with_reducible refine gate_dst (N := 3) rfl ?_); refine box_event ?hg (N := 3) ?hd (cs := #[.int .i64 0, .slice none 0 0, .slice none 0 0]) (t := 28) ?hr ?_; (case hd => rfl); (case hg => rfl); (case hr => first | (go_simp; done) | (go_simp; rfl)); intro gb167 hg w5 hbox hb; have n0_ := Aside0.mk (Kd.R_below (by (with_reducible repeat (first | apply Kd.R_alloc | apply Kd.R_drewN | apply Kd.R_drew)); exact HO162.out) hb); have n1_ := Aside0.mk (Kd.R_below (Kd.R_elderB (by (with_reducible repeat (first | apply Kd.R_alloc | apply Kd.R_drewN | apply Kd.R_drew)); exact HO165.out) gb167 (Nat.le_of_eq hg.symm)) hb); have n2_ := Aside0.mk (blk_below (g := gb158) (o := .cells #[.int .i64 0, .slice none 0 0, .slice none 0 0] 28 (0, 0)) (by (with_reducible repeat (first | refine blk_drewN ?_ _ | refine blk_drew ?_ | refine blk_alloc ?_ _)); exact BK158.out) hb); have n3_ := Aside0.mk (below_step (by repeat (first | (with_reducible first | exact HB.out | apply below_alloc | apply pw_below_drewN | apply below_drew1 | refine below_set ?_ GE158.out) | exact HB.out)) hb); have n4_ := Aside0.mk (hbox); have n5_ := Aside0.mk ((by rw [hg]; exact (below_size (by repeat (first | (with_reducible first | exact HB.out | apply below_alloc | apply pw_below_drewN | apply below_drew1 | refine below_set ?_ GE158.out) | exact HB.out))) : w.heap.size ≤ gb167)); have n6_ := Aside0.mk ((by rw [hg]; exact (below_size (by repeat (first | (with_reducible first | exact HB.out | apply below_alloc | apply pw_below_drewN | apply below_drew1 | refine below_set ?_ GE158.out) | exact HB.out))) : w.heap.size ≤ gb167)); have n7_ := Aside0.mk ((by rw [hg]; exact Nat.ne_of_lt (blk_lt (g := gb158) (o := .cells #[.int .i64 0, .slice none 0 0, .slice none 0 0] 28 (0, 0)) (by (with_reducible repeat (first | refine blk_drewN ?_ _ | refine blk_drew ?_ | refine blk_alloc ?_ _)); exact BK158.out)) : gb158 ≠ gb167)); have n8_ := Aside0.mk ((by rw [hg]; exact Nat.ne_of_gt (blk_lt (g := gb158) (o := .cells #[.int .i64 0, .slice none 0 0, .slice none 0 0] 28 (0, 0)) (by (with_reducible repeat (first | refine blk_drewN ?_ _ | refine blk_drew ?_ | refine blk_alloc ?_ _)); exact BK158.out)) : gb167 ≠ gb158)); clear HO162; clear HO165; clear BK158; clear HB; have HO162 := n0_; have HO165 := n1_; have BK158 := n2_; have HB := n3_; have BK167 := n4_; have GW167 := n5_; have GE167 := n6_; have NB158_167 := n7_; have NB167_158 := n8_; clear n0_ n1_ n2_ n3_ n4_ n5_ n6_ n7_ n8_; clear hb hbox hg; have hnb6 := NB167_158.out; have hnc6 := NB158_167.out; have hcz7_0 : w5.cell? ⟨gb167, 0, none⟩ = some (.int .i64 0) := (blk_cell BK167.out 0).trans rfl; have hcz7_1 : w5.cell? ⟨gb167, 1, none⟩ = some (.slice none 0 0) := (blk_cell BK167.out 1).trans rfl; have hcz7_2 : w5.cell? ⟨gb167, 2, none⟩ = some (.slice none 0 0) := (blk_cell BK167.out 2).trans rfl; have hfz7_0 := blk_frozen BK167.out 0; have hfz7_1 := blk_frozen BK167.out 1; have hfz7_2 := blk_frozen BK167.out 2; obtain ⟨Ao8, co8, eo8⟩ := Kd.R_slice HO162.out; subst eo8; obtain ⟨Ao9, co9, eo9⟩ := Kd.R_slice HO165.out; subst eo9; have hcz10_0 : w5.cell? ⟨gb158, 0, none⟩ = some (.int .i64 0) := (blk_cell BK158.out 0).trans rfl; have hcz10_1 : w5.cell? ⟨gb158, 1, none⟩ = some (.slice none 0 0) := (blk_cell BK158.out 1).trans rfl; have hcz10_2 : w5.cell? ⟨gb158, 2, none⟩ = some (.slice none 0 0) := (blk_cell BK158.out 2).trans rfl; have hfz10_0 := blk_frozen BK158.out 0; have hfz10_1 := blk_frozen BK158.out 1; have hfz10_2 := blk_frozen BK158.out 2))
 refine bodyPost_ret (results_cell_row rfl _ _ gb158 28 #[.int .i64 t159, .slice Ao8 t160.length co8, .slice Ao9 t163.length co9] (0, 0) _ rfl (by (with_reducible repeat (first | refine blk_drewN ?_ _ | refine blk_drew ?_ | refine blk_alloc ?_ _)); refine blk_put (cs := #[.int .i64 t159, .slice Ao8 t160.length co8, .slice none 0 0]) ?_ 2 _ rfl; (with_reducible repeat (first | refine blk_drewN ?_ _ | refine blk_drew ?_ | refine blk_alloc ?_ _)); refine blk_put (cs := #[.int .i64 t159, .slice none 0 0, .slice none 0 0]) ?_ 1 _ rfl; (with_reducible repeat (first | refine blk_drewN ?_ _ | refine blk_drew ?_ | refine blk_alloc ?_ _)); refine blk_put (cs := #[.int .i64 0, .slice none 0 0, .slice none 0 0]) ?_ 0 _ rfl; (with_reducible repeat (first | refine blk_drewN ?_ _ | refine blk_drew ?_ | refine blk_alloc ?_ _)); refine blk_far ?_ NB158_167.out _; (with_reducible repeat (first | refine blk_drewN ?_ _ | refine blk_drew ?_ | refine blk_alloc ?_ _)); refine blk_far ?_ NB158_167.out _; (with_reducible repeat (first | refine blk_drewN ?_ _ | refine blk_drew ?_ | refine blk_alloc ?_ _)); refine blk_far ?_ NB158_167.out _; (with_reducible repeat (first | refine blk_drewN ?_ _ | refine blk_drew ?_ | refine blk_alloc ?_ _)); exact BK158.out) Tryd.underlying28 rfl (by kernel_rfl)) rfl ?_
 exact ⟨_, _, by first | rfl | (simp [errW_none, errW_some] <;> rfl) | (simp [*, errW_none, errW_some] <;> rfl), by (with_reducible repeat (first | apply Kd.R_alloc | apply Kd.R_drewN | apply Kd.R_drew)); exact Kd.R_mono (Kd.R_far (p := ⟨gb158, 2, none⟩) (Kd.R_far (p := ⟨gb158, 1, none⟩) (Kd.R_far (p := ⟨gb158, 0, none⟩) (Kd.R_far (p := ⟨gb167, 2, none⟩) (Kd.R_far (p := ⟨gb167, 1, none⟩) (Kd.R_far (p := ⟨gb167, 0, none⟩) (Kd.R_types (Kd.R_types HO162.out BK167.out (by decide)) BK158.out (by decide)) (fun _ hk => hk.1.2) (.int .i64 t159)) (fun _ hk => hk.1.2) (.slice Ao8 t160.length co8)) (fun _ hk => hk.1.2) (.slice Ao9 t163.length co9)) (fun _ hk => hk.2) (.int .i64 t159)) (fun _ hk => hk.2) (.slice Ao8 t160.length co8)) (fun _ hk => hk.2) (.slice Ao9 t163.length co9)) (fun _ hk => trivial), by (with_reducible repeat (first | apply Kd.R_alloc | apply Kd.R_drewN | apply Kd.R_drew)); exact Kd.R_mono (Kd.R_far (p := ⟨gb158, 2, none⟩) (Kd.R_far (p := ⟨gb158, 1, none⟩) (Kd.R_far (p := ⟨gb158, 0, none⟩) (Kd.R_far (p := ⟨gb167, 2, none⟩) (Kd.R_far (p := ⟨gb167, 1, none⟩) (Kd.R_far (p := ⟨gb167, 0, none⟩) (Kd.R_mono (Kd.R_mono HO165.out (fun k_ hk => (⟨hk, hk.2⟩ : _ ∧ k_ ≠ gb167))) (fun k_ hk => (⟨hk, hk.1.1.2⟩ : _ ∧ k_ ≠ gb158))) (fun _ hk => hk.1.2) (.int .i64 t159)) (fun _ hk => hk.1.2) (.slice Ao8 t160.length co8)) (fun _ hk => hk.1.2) (.slice Ao9 t163.length co9)) (fun _ hk => hk.2) (.int .i64 t159)) (fun _ hk => hk.2) (.slice Ao8 t160.length co8)) (fun _ hk => hk.2) (.slice Ao9 t163.length co9)) (fun _ hk => hk.1.1.1.1), by repeat (first | (with_reducible first | exact HB.out | apply below_alloc | apply pw_below_drewN | apply below_drew1 | refine below_set ?_ GE158.out | refine below_set ?_ GE167.out) | exact HB.out)⟩

end Go.Proofs.YtmbgjhkemlliaaaDoor.PT
end

section
set_option linter.unusedVariables false
set_option linter.unusedSimpArgs false
namespace Go.Proofs.YtmbgjhkemlliaaaDoor.Tlv
open Go.RowKit Go.Proofs.YtmbgjhkemlliaaaDoorW.PrintWords Go.Proofs.YtmbgjhkemlliaaaDoorW.PrintLast Go.Proofs.YtmbgjhkemlliaaaDoorW.PrintMore Go.Proofs.YtmbgjhkemlliaaaDoor.PT

theorem C_nil {α : Type} (d : Kd α) (w : World) (A : Option Addr) : d.C w A 0 [] := ⟨rfl, by omega, fun h => absurd h (by omega)⟩
theorem C_ints {k : IntKind} {w : World} {g : Nat} {t : TypeId} {l : List Int} (h : w.heap[g]? = some (.cells (l.map (Value.int k)).toArray t (0, 0))) (hl : l.length ≤ 9223372036854775807) : (Kd.int k).C w (some ⟨g, 0, none⟩) l.length l :=
 ⟨rfl, hl, fun _ => ⟨_, rfl, fun j p hj => ⟨[.int k p], rfl, rfl, fun i u hu => by
  cases i with
  | succ i => simp at hu
  | zero =>
   rw [List.getElem?_cons_zero] at hu
   injection hu with hu
   subst hu
   have e : Addr.add ⟨g, 0, none⟩ (j * 1 + 0) = ⟨g, j, none⟩ := by rw [Nat.mul_one, Nat.add_zero]; unfold Addr.add; simp; exact Eq.symm
   rw [show (Kd.int k).sz = 1 from rfl, e, Lib.cell_of_heap h j]
   rw [List.getElem?_toArray, List.getElem?_map, hj]; rfl⟩⟩⟩
/-- An element of one's own: its rows lie in blocks from base on, below m. -/
structure NodeR (w : World) (base m : Nat) (n : T) (v1 v2 : Value) : Prop where
 b : (Kd.int .u8).R 5 w base (fun k => base ≤ k ∧ k < m) v1 n.f1
 k : k28.R 28 w base (fun k => base ≤ k ∧ k < m) v2 n.f2
theorem NodeR.of {w : World} {base : Nat} {n : T} {v1 v2 : Value} {ok1 ok2 : Nat → Prop} (h1 : (Kd.int .u8).R 5 w base ok1 v1 n.f1) (h2 : k28.R 28 w base ok2 v2 n.f2) : NodeR w base w.heap.size n v1 v2 :=
 ⟨Kd.R_mono (Kd.R_bound h1) (fun _ h => ⟨h.2.1, h.2.2.1⟩), Kd.R_mono (Kd.R_bound h2) (fun _ h => ⟨h.2.1, h.2.2.1⟩)⟩
theorem NodeR.move {w w1 : World} {base m : Nat} {n : T} {v1 v2 : Value} (h : NodeR w base m n v1 v2) (hm : ∀ k, base ≤ k → k < m → w1.heap[k]? = w.heap[k]?) : NodeR w1 base m n v1 v2 :=
 ⟨Kd.R_move h.b (fun k hk => hm k hk.1 hk.2), Kd.R_move h.k (fun k hk => hm k hk.1 hk.2)⟩
theorem NodeR.widen {w : World} {base base' m m' : Nat} {n : T} {v1 v2 : Value} (h : NodeR w base m n v1 v2) (hb : base' ≤ base) (hm : m ≤ m') : NodeR w base' m' n v1 v2 :=
 ⟨Kd.R_lower (Kd.R_mono h.b (fun k hk => ⟨by omega, by omega⟩)) hb, Kd.R_lower (Kd.R_mono h.k (fun k hk => ⟨by omega, by omega⟩)) hb⟩
theorem NodeR.below {w w1 : World} {base m : Nat} {n : T} {v1 v2 : Value} (h : NodeR w base m n v1 v2) (hb : Below m w w1) : NodeR w1 base m n v1 v2 := h.move (fun k _ hk => hb.block k hk)
theorem NodeR.form {w : World} {base m : Nat} {n : T} {v1 v2 : Value} (h : NodeR w base m n v1 v2) : ∃ A1 c1 A2 c2, v1 = .slice A1 n.f1.length c1 ∧ v2 = .slice A2 n.f2.length c2 ∧ NodeAt w n A1 c1 A2 c2 := by
 obtain ⟨A1, c1, e1, hc1, hr1⟩ := Kd.R_reads h.b
 obtain ⟨A2, c2, e2, hc2, hr2⟩ := Kd.R_reads h.k
 exact ⟨A1, c1, A2, c2, e1, e2, hr1, hc1, hr2, hc2⟩
theorem NodeR.at {w : World} {base m : Nat} {n : T} {A1 : Option Addr} {c1 : Nat} {A2 : Option Addr} {c2 : Nat} (h : NodeR w base m n (.slice A1 n.f1.length c1) (.slice A2 n.f2.length c2)) : NodeAt w n A1 c1 A2 c2 := by
 obtain ⟨B1, d1, B2, d2, e1, e2, hn⟩ := h.form
 injection e1 with e1 _ e3
 injection e2 with e2 _ e4
 subst e1 e2 e3 e4
 exact hn
theorem NodeR.M {w : World} {base m g m' : Nat} {n : T} {v1 v2 : Value} (h : NodeR w base m n v1 v2) (hg : m ≤ g) (hm : m ≤ m') : k28.M w base (fun k => (base ≤ k ∧ k < m') ∧ some k ≠ some g) n [.int .i64 n.f0, v1, v2] :=
 k28_mkM w base _ n (Kd.R_mono h.b (fun k hk => ⟨⟨hk.1, by omega⟩, by simp; omega⟩)) (Kd.R_mono h.k (fun k hk => ⟨⟨hk.1, by omega⟩, by simp; omega⟩))
/-- A row of elements that has been laid in block g. -/
theorem R_row {w : World} {base g m : Nat} {l : List T} {cs : List Value} (h : w.heap[g]? = some (.cells cs.toArray 28 (0, 0))) (hb : base ≤ g) (hm : g < m) (hr : Reps (k28.M w base (fun k => (base ≤ k ∧ k < m) ∧ some k ≠ some g)) 3 l cs) (hl : l.length ≤ 1000000) :
 k28.R 28 w base (fun k => base ≤ k ∧ k < m) (.slice (some ⟨g, 0, none⟩) l.length l.length) l :=
 ⟨fun k hk => by
  have : g = k := by simpa [Value.ownBlock] using hk
  subst this
  exact ⟨hb, hm⟩, cs, ⟨hr.1, .inr ⟨g, l.length, cs.toArray, rfl, hb, h, Nat.le_refl _, by simp only [maxLen]; omega, by show cs.toArray.size = l.length * 3; rw [List.size_toArray]; exact hr.1, by
   rw [show cs.toArray.toList = cs from rfl]
   exact List.take_of_length_le (by rw [hr.1]; exact Nat.le_refl _)⟩⟩, hr⟩
theorem Reps_one {w : World} {base m g m' : Nat} {a : T} {x1 x2 : Value} (h1 : NodeR w base m a x1 x2) (hg : m ≤ g) (hm : m ≤ m') : Reps (k28.M w base (fun k => (base ≤ k ∧ k < m') ∧ some k ≠ some g)) 3 [a] [.int .i64 a.f0, x1, x2] :=
 (Reps.none _ _).snoc (p := a) (c := [.int .i64 a.f0, x1, x2]) (h1.M hg hm) rfl
theorem Reps_two {w : World} {base m g m' : Nat} {a b : T} {x1 x2 y1 y2 : Value} (h1 : NodeR w base m a x1 x2) (h2 : NodeR w base m b y1 y2) (hg : m ≤ g) (hm : m ≤ m') : Reps (k28.M w base (fun k => (base ≤ k ∧ k < m') ∧ some k ≠ some g)) 3 [a, b] [.int .i64 a.f0, x1, x2, .int .i64 b.f0, y1, y2] :=
 (Reps_one h1 hg hm).snoc (p := b) (c := [.int .i64 b.f0, y1, y2]) (h2.M hg hm) rfl
theorem NodeR.nilnil (w : World) (base m : Nat) (a : Int) : NodeR w base m ⟨a, [], []⟩ (.slice none 0 0) (.slice none 0 0) := ⟨Kd.R_nil _ _ _ _ _, Kd.R_nil _ _ _ _ _⟩

def oidB (x : Int) : List Int := [42, 134, 72, 134, 247, 13, 1, 1, x]
def algT (x : Int) : T := ⟨48, [], [⟨6, oidB x, []⟩, ⟨5, [], []⟩]⟩
theorem oid_f11 : scalar_Oid.f 100 [1, 2, 840, 113549, 1, 1, 11] = some (6, oidB 11, [], 0) := by kernel_rfl
theorem oid_f1 : scalar_Oid.f 100 [1, 2, 840, 113549, 1, 1, 1] = some (6, oidB 1, [], 0) := by kernel_rfl

set_option maxHeartbeats 4000000 in
set_option maxRecDepth 100000 in
theorem made_walk0 (x : Int) (hf : scalar_Oid.f 100 [1, 2, 840, 113549, 1, 1, x] = some (6, oidB x, [], 0)) (w : World) :
 Calls Tryd.prog 17 #[.int .u32 x] w fun e w' => ∃ v2, e = .returned (.agg #[.int .i64 48, .slice none 0 0, v2]) ∧ NodeR w' w.heap.size w'.heap.size (algT x) (.slice none 0 0) v2 ∧ Below w.heap.size w w' := by
 have HF := Lib.hid hf
 clear hf
 go_enter Tryd.func17, Tryd.ntmps17
 go_wp2_with (fail)
 have hl2 : ((w.alloc (.cells #[.int .i64 0, .slice none 0 0, .slice none 0 0] 28)).alloc (.cells #[.int .u32 1, .int .u32 2, .int .u32 840, .int .u32 113549, .int .u32 1, .int .u32 1, .int .u32 x] 23)).heap[w.heap.size + 1]? = some (.cells ([1, 2, 840, 113549, 1, 1, x].map (Value.int .u32)).toArray 23 (0, 0)) := by
  have := heap_alloc_new (w.alloc (.cells #[.int .i64 0, .slice none 0 0, .slice none 0 0] 28)) (.cells #[.int .u32 1, .int .u32 2, .int .u32 840, .int .u32 113549, .int .u32 1, .int .u32 1, .int .u32 x] 23)
  simpa using this
 have hb0 : ((w.alloc (.cells #[.int .i64 0, .slice none 0 0, .slice none 0 0] 28)).alloc (.cells #[.int .u32 1, .int .u32 2, .int .u32 840, .int .u32 113549, .int .u32 1, .int .u32 1, .int .u32 x] 23)).heap[w.heap.size]? = some (.cells #[.int .i64 0, .slice none 0 0, .slice none 0 0] 28 (0, 0)) :=
  (Below.heap_alloc _ _ _ (by simp)).trans (heap_alloc_new w _)
 have hB2 : Below w.heap.size w ((w.alloc (.cells #[.int .i64 0, .slice none 0 0, .slice none 0 0] 28)).alloc (.cells #[.int .u32 1, .int .u32 2, .int .u32 840, .int .u32 113549, .int .u32 1, .int .u32 1, .int .u32 x] 23)) := ((Below.refl _ _).alloc (Nat.le_refl _) _).alloc (by simp) _
 generalize (w.alloc (.cells #[.int .i64 0, .slice none 0 0, .slice none 0 0] 28)).alloc (.cells #[.int .u32 1, .int .u32 2, .int .u32 840, .int .u32 113549, .int .u32 1, .int .u32 1, .int .u32 x] 23) = w2 at hl2 hb0 hB2 ⊢
 refine (scalar_Oid.calls 100 (some ⟨w.heap.size + 1, 0, none⟩) 7 [1, 2, 840, 113549, 1, 1, x] 6 (oidB x) [] 0 w2 (C_ints hl2 (by simp)) (by simp) HF.out).mono ?_
 rintro e w3 ⟨v1, v2, rfl, hv1, hv2, hB3⟩
 obtain ⟨A1, c1, rfl⟩ := Kd.R_slice hv1
 obtain ⟨A2, c2, rfl⟩ := Kd.R_slice hv2
 have hb3 := (hB3.block _ (heap_lt hb0)).trans hb0
 have hlt := heap_lt hb3
 have hB := hB2.trans (hB3.mono hB2.size)
 have h0 := NodeR.of (n := ⟨6, oidB x, []⟩) hv1 hv2
 have H0 := Lib.hid h0
 have HLT2 := Lib.hid (And.intro (heap_lt hb0) hB3.size)
 have HB := Lib.hid hB
 have HB3 := Lib.hid hb3
 have a0 := Lib.cell_of_heap hb3 0
 have a1 := Lib.cell_of_heap hb3 1
 have a2 := Lib.cell_of_heap hb3 2
 have f0 := Lib.frozen_of_heap hb3 0
 have f1 := Lib.frozen_of_heap hb3 1
 have f2 := Lib.frozen_of_heap hb3 2
 clear h0 hB hb3 hl2 hb0 hB2 hB3 hv1 hv2
 have holen : (oidB x).length = 9 := rfl
 rw [holen]
 go_wp2
 have z0 : (((w3.setCell ⟨w.heap.size, 0, none⟩ (.int .i64 48)).setCell ⟨w.heap.size, 1, none⟩ (.slice none 0 0)).setCell ⟨w.heap.size, 2, none⟩ (.slice (some ⟨w3.heap.size + 1, 0, none⟩) 2 2)).heap[w.heap.size]? = some (.cells #[.int .i64 48, .slice none 0 0, .slice (some ⟨w3.heap.size + 1, 0, none⟩) 2 2] 28 (0, 0)) :=
  heap_setCell_same _ _ 2 _ _ _ (heap_setCell_same _ _ 1 _ _ _ (heap_setCell_same _ _ 0 _ _ _ HB3.out))
 have zB : Below w.heap.size w (((w3.setCell ⟨w.heap.size, 0, none⟩ (.int .i64 48)).setCell ⟨w.heap.size, 1, none⟩ (.slice none 0 0)).setCell ⟨w.heap.size, 2, none⟩ (.slice (some ⟨w3.heap.size + 1, 0, none⟩) 2 2)) :=
  Below.setCell (Below.setCell (Below.setCell HB.out (p := ⟨w.heap.size, 0, none⟩) (Nat.le_refl _) _) (p := ⟨w.heap.size, 1, none⟩) (Nat.le_refl _) _) (p := ⟨w.heap.size, 2, none⟩) (Nat.le_refl _) _
 have zs : (((w3.setCell ⟨w.heap.size, 0, none⟩ (.int .i64 48)).setCell ⟨w.heap.size, 1, none⟩ (.slice none 0 0)).setCell ⟨w.heap.size, 2, none⟩ (.slice (some ⟨w3.heap.size + 1, 0, none⟩) 2 2)).heap.size = w3.heap.size := by simp
 have zk : ∀ k, k ≠ w.heap.size → (((w3.setCell ⟨w.heap.size, 0, none⟩ (.int .i64 48)).setCell ⟨w.heap.size, 1, none⟩ (.slice none 0 0)).setCell ⟨w.heap.size, 2, none⟩ (.slice (some ⟨w3.heap.size + 1, 0, none⟩) 2 2)).heap[k]? = w3.heap[k]? :=
  fun k hk => (heap_setCell_other _ _ _ _ hk).trans ((heap_setCell_other _ _ _ _ hk).trans (heap_setCell_other _ _ _ _ hk))
 generalize ((w3.setCell ⟨w.heap.size, 0, none⟩ (.int .i64 48)).setCell ⟨w.heap.size, 1, none⟩ (.slice none 0 0)).setCell ⟨w.heap.size, 2, none⟩ (.slice (some ⟨w3.heap.size + 1, 0, none⟩) 2 2) = w4 at z0 zB zs zk ⊢
 have hn := H0.out
 obtain ⟨hq1, hq2⟩ := HLT2.out
 rw [← zs]
 rw [← zs] at z0
 have hr0 : ((w4.alloc (.cells #[.int .i64 6, .slice A1 9 c1, .slice A2 0 c2] 28)).alloc (.cells #[.int .i64 6, .slice A1 9 c1, .slice A2 0 c2, .int .i64 5, .slice none 0 0, .slice none 0 0] 28)).heap[w.heap.size]? = some (.cells #[.int .i64 48, .slice none 0 0, .slice (some ⟨w4.heap.size + 1, 0, none⟩) 2 2] 28 (0, 0)) :=
  (Below.heap_alloc _ _ _ (by simp; omega)).trans ((Below.heap_alloc _ _ _ (by omega)).trans z0)
 have hk0 : ((w4.alloc (.cells #[.int .i64 6, .slice A1 9 c1, .slice A2 0 c2] 28)).alloc (.cells #[.int .i64 6, .slice A1 9 c1, .slice A2 0 c2, .int .i64 5, .slice none 0 0, .slice none 0 0] 28)).heap[w4.heap.size + 1]? = some (.cells [.int .i64 6, .slice A1 9 c1, .slice A2 0 c2, .int .i64 5, .slice none 0 0, .slice none 0 0].toArray 28 (0, 0)) := by
  have := heap_alloc_new (w4.alloc (.cells #[.int .i64 6, .slice A1 9 c1, .slice A2 0 c2] 28)) (.cells #[.int .i64 6, .slice A1 9 c1, .slice A2 0 c2, .int .i64 5, .slice none 0 0, .slice none 0 0] 28)
  simpa using this
 have hBf : Below w4.heap.size w4 ((w4.alloc (.cells #[.int .i64 6, .slice A1 9 c1, .slice A2 0 c2] 28)).alloc (.cells #[.int .i64 6, .slice A1 9 c1, .slice A2 0 c2, .int .i64 5, .slice none 0 0, .slice none 0 0] 28)) := ((Below.refl _ _).alloc (Nat.le_refl _) _).alloc (by simp) _
 have hsf : ((w4.alloc (.cells #[.int .i64 6, .slice A1 9 c1, .slice A2 0 c2] 28)).alloc (.cells #[.int .i64 6, .slice A1 9 c1, .slice A2 0 c2, .int .i64 5, .slice none 0 0, .slice none 0 0] 28)).heap.size = w4.heap.size + 2 := by simp
 generalize (w4.alloc (.cells #[.int .i64 6, .slice A1 9 c1, .slice A2 0 c2] 28)).alloc (.cells #[.int .i64 6, .slice A1 9 c1, .slice A2 0 c2, .int .i64 5, .slice none 0 0, .slice none 0 0] 28) = w5 at hr0 hk0 hBf hsf ⊢
 have b0 := Lib.cell_of_heap hr0 0
 have b1 := Lib.cell_of_heap hr0 1
 have b2 := Lib.cell_of_heap hr0 2
 have hn5 : NodeR w5 w.heap.size w4.heap.size ⟨6, oidB x, []⟩ (.slice A1 9 c1) (.slice A2 0 c2) := by
  refine (NodeR.widen (NodeR.move (w1 := w5) hn (fun k hk1 hk2 => ?_)) (by omega) (by omega))
  rw [hBf.block k (by omega)]
  exact zk k (by omega)
 refine bodyPost_ret (v := .agg #[.int .i64 48, .slice none 0 0, .slice (some ⟨w4.heap.size + 1, 0, none⟩) 2 2]) (by simp [results, Tryd.results17, go_sem, b0, b1, b2]) rfl ?_
 refine ⟨_, rfl, ⟨Kd.R_nil _ _ _ _ _, ?_⟩, zB.trans (hBf.mono (by omega))⟩
 exact R_row (l := [⟨6, oidB x, []⟩, ⟨5, [], []⟩]) hk0 (by omega) (by omega) (Reps_two hn5 (NodeR.nilnil w5 w.heap.size w4.heap.size 5) (by omega) (by omega)) (by simp)
theorem made_walk (x : Int) (hf : scalar_Oid.f 100 [1, 2, 840, 113549, 1, 1, x] = some (6, oidB x, [], 0)) (w : World) :
 Calls Tryd.prog 17 #[.int .u32 x] w fun e w' => ∃ v1 v2, e = .returned (.agg #[.int .i64 48, v1, v2]) ∧ NodeR w' w.heap.size w'.heap.size (algT x) v1 v2 ∧ Below w.heap.size w w' := by
 refine (made_walk0 x hf w).mono ?_
 rintro e w' ⟨v2, rfl, hn, hB⟩
 exact ⟨_, v2, rfl, hn, hB⟩

end Go.Proofs.YtmbgjhkemlliaaaDoor.Tlv
end

section
set_option linter.unusedVariables false
set_option linter.unusedSimpArgs false
namespace Go.Proofs.YtmbgjhkemlliaaaDoor.Tlv
open Go.RowKit Go.Proofs.YtmbgjhkemlliaaaDoorW.PrintWords Go.Proofs.YtmbgjhkemlliaaaDoorW.PrintLast Go.Proofs.YtmbgjhkemlliaaaDoorW.PrintMore Go.Proofs.YtmbgjhkemlliaaaDoor.PT

theorem NodeAt.K {w : World} {n : T} {A1 : Option Addr} {c1 : Nat} {A2 : Option Addr} {c2 : Nat} (h : NodeAt w n A1 c1 A2 c2) : k28.K w n [.int .i64 n.f0, .slice A1 n.f1.length c1, .slice A2 n.f2.length c2] := k28_mk w n h.2.1 h.1 h.2.2.2 h.2.2.1
/-- A row of elements that has been laid in block g, as it is read. -/
theorem C_row {w : World} {g : Nat} {l : List T} {cs : List Value} (h : w.heap[g]? = some (.cells cs.toArray 28 (0, 0))) (hr : Reps (k28.K w) 3 l cs) (hl : l.length ≤ 1000000) : k28.C w (some ⟨g, 0, none⟩) l.length l := by
 have ho : w.ownsRow g 28 3 (.slice (some ⟨g, 0, none⟩) l.length l.length) l.length cs :=
  ⟨hr.1, .inr ⟨g, l.length, cs.toArray, rfl, Nat.le_refl _, h, Nat.le_refl _, by simp only [maxLen]; omega, by rw [List.size_toArray]; exact hr.1, by
   rw [show cs.toArray.toList = cs from rfl]
   exact List.take_of_length_le (by rw [hr.1]; exact Nat.le_refl _)⟩⟩
 obtain ⟨A, c, e, hc⟩ := own_reads_row ho hr rfl
 injection e with e1 _ _
 subst e1
 exact hc
theorem KReps_one {w : World} {a : T} {x1 x2 : Value} (h1 : k28.K w a [.int .i64 a.f0, x1, x2]) : Reps (k28.K w) 3 [a] [.int .i64 a.f0, x1, x2] :=
 (Reps.none _ _).snoc (p := a) (c := [.int .i64 a.f0, x1, x2]) h1 rfl
theorem KReps_two {w : World} {a b : T} {x1 x2 y1 y2 : Value} (h1 : k28.K w a [.int .i64 a.f0, x1, x2]) (h2 : k28.K w b [.int .i64 b.f0, y1, y2]) : Reps (k28.K w) 3 [a, b] [.int .i64 a.f0, x1, x2, .int .i64 b.f0, y1, y2] :=
 (KReps_one h1).snoc (p := b) (c := [.int .i64 b.f0, y1, y2]) h2 rfl
theorem KReps_three {w : World} {a b c : T} {x1 x2 y1 y2 z1 z2 : Value} (h1 : k28.K w a [.int .i64 a.f0, x1, x2]) (h2 : k28.K w b [.int .i64 b.f0, y1, y2]) (h3 : k28.K w c [.int .i64 c.f0, z1, z2]) : Reps (k28.K w) 3 [a, b, c] [.int .i64 a.f0, x1, x2, .int .i64 b.f0, y1, y2, .int .i64 c.f0, z1, z2] :=
 (KReps_two h1 h2).snoc (p := c) (c := [.int .i64 c.f0, z1, z2]) h3 rfl

def bitT (l : List Int) : T := ⟨3, 0 :: l, []⟩
def sealT (n : T) (sig : List Int) : T := ⟨48, [], [n, algT 11, bitT sig]⟩
theorem whole_f (l : List Int) (hl : l.length ≤ 1000000) : spki_whole.f l = some (3, 0 :: l, []) := by
 have e1 : wrap64 (8 * (l.length : Int)) = 8 * (l.length : Int) := by unfold wrap64; omega
 have e2 : wrap64 (8 * (l.length : Int) - 8 * (l.length : Int)) = 0 := by unfold wrap64; omega
 unfold spki_whole.f scalar_Bits.f
 rw [e1, if_neg (by omega), e2, if_neg (by omega), if_neg (by omega), if_neg (by omega)]
 have e3 : ([(0 : Int) % 256] : List Int).length + l.length < 140737488355328 := by simp; omega
 rw [Option.bind_some, if_pos e3, Option.bind_some]
 rfl

set_option maxHeartbeats 4000000 in
set_option maxRecDepth 100000 in
theorem seal_walk (n : T) (sig : List Int) (hs : rightT n = true → sizeT n ≤ 1000000) (hsl : sig.length ≤ 1000000) (A1 : Option Addr) (c1 : Nat) (A2 : Option Addr) (c2 : Nat) (As : Option Addr) (cs : Nat) (w : World) (hn : NodeAt w n A1 c1 A2 c2) (hsr : ReadsInt w .u8 As sig.length sig) (hsc : sig.length ≤ cs) :
 Calls Tryd.prog 12 #[.agg #[.int .i64 n.f0, .slice A1 n.f1.length c1, .slice A2 n.f2.length c2], .slice As sig.length cs] w (WritePost w (sealT n sig)) := by
 have hbox : (w.alloc (.cells #[.int .i64 n.f0, .slice A1 n.f1.length c1, .slice A2 n.f2.length c2] 28)).drew.heap[w.heap.size]? = some (.cells #[.int .i64 n.f0, .slice A1 n.f1.length c1, .slice A2 n.f2.length c2] 28 (0, 0)) := heap_alloc_new w _
 have hB1 : Below w.heap.size w (w.alloc (.cells #[.int .i64 n.f0, .slice A1 n.f1.length c1, .slice A2 n.f2.length c2] 28)).drew := ((Below.refl _ _).alloc (Nat.le_refl _) _).drew
 have hsz1 : (w.alloc (.cells #[.int .i64 n.f0, .slice A1 n.f1.length c1, .slice A2 n.f2.length c2] 28)).drew.heap.size = w.heap.size + 1 := by show (w.alloc _).heap.size = _; simp
 have a0 := Lib.cell_of_heap hbox 0
 have a1 := Lib.cell_of_heap hbox 1
 have a2 := Lib.cell_of_heap hbox 2
 have hrs : rightT (sealT n sig) = true → sizeT (sealT n sig) ≤ 100000000 := by
  intro h
  unfold sealT at h ⊢
  rw [rightT, Bool.and_eq_true] at h
  have h0 := h.2
  rw [rightL, Bool.and_eq_true] at h0
  have h1 := hs h0.1
  have e : holdsB 48 = true := by decide
  have h2 := headLen_pos (sizeL [n, algT 11, bitT sig])
  have h3 : sizeT (algT 11) = 15 := by decide
  have h4 : sizeT (bitT sig) = ((0 :: sig).length : Int) + headLen (((0 :: sig).length : Nat) : Int) := by unfold bitT; rw [sizeT, if_neg (by decide)]
  have h5 := headLen_pos (((0 :: sig).length : Nat) : Int)
  have h6 : (((0 : Int) :: sig).length : Int) = sig.length + 1 := by simp
  have h7 : sizeL [n, algT 11, bitT sig] = sizeT n + (sizeT (algT 11) + (sizeT (bitT sig) + 0)) := by rw [sizeL, sizeL, sizeL, sizeL]
  rw [sizeT, if_pos e]
  omega
 generalize hPP : WritePost w (sealT n sig) = PP
 have hseal : ∀ (w2 w3 : World) (M1 : Option Addr) (m1 : Nat) (M2 : Option Addr) (m2 : Nat), Below w.heap.size w w2 → w2.heap.size = w.heap.size + 1 → w2.heap[w.heap.size]? = some (.cells #[.int .i64 n.f0, .slice A1 n.f1.length c1, .slice A2 n.f2.length c2] 28 (0, 0)) →
  NodeR w3 w2.heap.size w3.heap.size (algT 11) (.slice M1 0 m1) (.slice M2 2 m2) → Below w2.heap.size w2 w3 →
  (w3.cell? ⟨w.heap.size, 0, none⟩ = some (.int .i64 n.f0) ∧ w3.cell? ⟨w.heap.size, 1, none⟩ = some (.slice A1 n.f1.length c1) ∧ w3.cell? ⟨w.heap.size, 2, none⟩ = some (.slice A2 n.f2.length c2)) ∧
  (Kd.int .u8).C w3 As sig.length sig ∧ sig.length ≤ cs ∧ spki_whole.f sig = some (3, 0 :: sig, []) ∧
  (∀ (w4 : World) (W1 : Option Addr) (d1 : Nat) (W2 : Option Addr) (d2 : Nat), (Kd.int .u8).R 5 w4 w3.heap.size (fun _ => True) (.slice W1 (0 :: sig).length d1) (0 :: sig) → k28.R 28 w4 w3.heap.size (fun k => some k ≠ (Value.slice W1 (0 :: sig).length d1).ownBlock) (.slice W2 ([] : List T).length d2) [] → Below w3.heap.size w3 w4 →
   (w4.cell? ⟨w.heap.size, 0, none⟩ = some (.int .i64 n.f0) ∧ w4.cell? ⟨w.heap.size, 1, none⟩ = some (.slice A1 n.f1.length c1) ∧ w4.cell? ⟨w.heap.size, 2, none⟩ = some (.slice A2 n.f2.length c2)) ∧
   ((w4.alloc (.cells #[.int .i64 n.f0, .slice A1 n.f1.length c1, .slice A2 n.f2.length c2, .int .i64 48, .slice M1 0 m1, .slice M2 2 m2, .int .i64 3, .slice W1 (sig.length + 1) d1, .slice W2 0 d2] 28)).cell? ⟨w.heap.size, 0, none⟩ = some (.int .i64 n.f0) ∧ (w4.alloc (.cells #[.int .i64 n.f0, .slice A1 n.f1.length c1, .slice A2 n.f2.length c2, .int .i64 48, .slice M1 0 m1, .slice M2 2 m2, .int .i64 3, .slice W1 (sig.length + 1) d1, .slice W2 0 d2] 28)).cell? ⟨w.heap.size, 1, none⟩ = some (.slice A1 n.f1.length c1) ∧ (w4.alloc (.cells #[.int .i64 n.f0, .slice A1 n.f1.length c1, .slice A2 n.f2.length c2, .int .i64 48, .slice M1 0 m1, .slice M2 2 m2, .int .i64 3, .slice W1 (sig.length + 1) d1, .slice W2 0 d2] 28)).cell? ⟨w.heap.size, 2, none⟩ = some (.slice A2 n.f2.length c2)) ∧
   Calls Tryd.prog 28 #[.agg #[.int .i64 48, .slice none 0 0, .slice (some ⟨w4.heap.size, 0, none⟩) 3 3]] (w4.alloc (.cells #[.int .i64 n.f0, .slice A1 n.f1.length c1, .slice A2 n.f2.length c2, .int .i64 48, .slice M1 0 m1, .slice M2 2 m2, .int .i64 3, .slice W1 (sig.length + 1) d1, .slice W2 0 d2] 28)) fun e w5 => ∃ va vb, e = .returned (.tuple #[va, vb]) ∧ PP (.returned (.tuple #[va, vb])) w5 ∧
    (w5.cell? ⟨w.heap.size, 0, none⟩ = some (.int .i64 n.f0) ∧ w5.cell? ⟨w.heap.size, 1, none⟩ = some (.slice A1 n.f1.length c1) ∧ w5.cell? ⟨w.heap.size, 2, none⟩ = some (.slice A2 n.f2.length c2))) := by
  intro w2 w3 M1 m1 M2 m2 hB2 hs2 h2 ho3 hB3
  have h3 := (hB3.block _ (heap_lt h2)).trans h2
  have hBw3 : Below w.heap.size w w3 := hB2.trans (hB3.mono (by omega))
  refine ⟨⟨Lib.cell_of_heap h3 0, Lib.cell_of_heap h3 1, Lib.cell_of_heap h3 2⟩, Kd.C_below (C_of_reads hsr rfl) hBw3, hsc, whole_f sig hsl, ?_⟩
  intro w4 W1 d1 W2 d2 hv1 hv2 hB4
  have h4 := (hB4.block _ (heap_lt h3)).trans h3
  have hBw4 : Below w.heap.size w w4 := hBw3.trans (hB4.mono hBw3.size)
  have hn4 := hn.below hBw4
  have hm4 := (ho3.below hB4).at (n := algT 11)
  have hw4 := (NodeR.of (n := bitT sig) hv1 hv2).at
  generalize hob : (Obj.cells #[.int .i64 n.f0, .slice A1 n.f1.length c1, .slice A2 n.f2.length c2, .int .i64 48, .slice M1 0 m1, .slice M2 2 m2, .int .i64 3, .slice W1 (sig.length + 1) d1, .slice W2 0 d2] 28 : Obj) = ob
  have h5 := (Below.heap_alloc w4 ob _ (heap_lt h4)).trans h4
  have h6 : (w4.alloc ob).heap[w4.heap.size]? = some ob := heap_alloc_new w4 _
  have hBB : Below w4.heap.size w4 (w4.alloc ob) := (Below.refl _ _).alloc (Nat.le_refl _) _
  refine ⟨⟨Lib.cell_of_heap h4 0, Lib.cell_of_heap h4 1, Lib.cell_of_heap h4 2⟩, ⟨Lib.cell_of_heap h5 0, Lib.cell_of_heap h5 1, Lib.cell_of_heap h5 2⟩, ?_⟩
  have hk : k28.C (w4.alloc ob) (some ⟨w4.heap.size, 0, none⟩) 3 [n, algT 11, bitT sig] :=
   C_row (cs := [.int .i64 n.f0, .slice A1 n.f1.length c1, .slice A2 n.f2.length c2, .int .i64 48, .slice M1 0 m1, .slice M2 2 m2, .int .i64 3, .slice W1 (sig.length + 1) d1, .slice W2 0 d2]) (by rw [h6, ← hob]) (KReps_three (NodeAt.K (n := n) (hn4.below hBB)) (NodeAt.K (n := algT 11) (hm4.below hBB)) (NodeAt.K (n := bitT sig) (hw4.below hBB))) (by simp)
  have hnode : NodeAt (w4.alloc ob) (sealT n sig) none 0 (some ⟨w4.heap.size, 0, none⟩) 3 := ⟨C_nil _ _ _, Nat.le_refl _, hk, Nat.le_refl _⟩
  refine (write_walk (sealT n sig) hrs none 0 (some ⟨w4.heap.size, 0, none⟩) 3 (w4.alloc ob) hnode).mono ?_
  intro e w5 hp
  have hBw5 : Below w.heap.size w (w4.alloc ob) := hBw4.trans (hBB.mono hBw4.size)
  have hlt5 := heap_lt h5
  unfold WritePost at hp
  have hE : ∃ va vb, e = .returned (.tuple #[va, vb]) ∧ WritePost w (sealT n sig) (.returned (.tuple #[va, vb])) w5 ∧ Below (w4.alloc ob).heap.size (w4.alloc ob) w5 := by
   unfold WritePost
   cases hq : writeP (sealT n sig) with
   | err x =>
    rw [hq] at hp
    obtain ⟨rfl, hb5⟩ := hp
    exact ⟨_, _, rfl, ⟨rfl, hBw5.trans (hb5.mono hBw5.size)⟩, hb5⟩
   | ok l =>
    rw [hq] at hp
    obtain ⟨A, c, rfl, ho5, hb5⟩ := hp
    exact ⟨_, _, rfl, ⟨A, c, rfl, Kd.R_lower ho5 hBw5.size, hBw5.trans (hb5.mono hBw5.size)⟩, hb5⟩
  obtain ⟨va, vb, rfl, hw, hb5⟩ := hE
  have h7 := (hb5.block _ hlt5).trans h5
  exact ⟨va, vb, rfl, hPP ▸ hw, Lib.cell_of_heap h7 0, Lib.cell_of_heap h7 1, Lib.cell_of_heap h7 2⟩
 have HSEAL := Lib.hid (fun w3 M1 m1 M2 m2 h3 hb3 => hseal _ w3 M1 m1 M2 m2 hB1 hsz1 hbox h3 hb3)
 clear hseal hPP hrs hbox hB1 hsz1 hn hsr hs hsl hsc
 go_enter Tryd.func12, Tryd.ntmps12
 go_wp2
 refine start_ (n := 11) (S := fun w' => w'.cell? ⟨w.heap.size, 0, none⟩ = some (.int .i64 n.f0) ∧ w'.cell? ⟨w.heap.size, 1, none⟩ = some (.slice A1 n.f1.length c1) ∧ w'.cell? ⟨w.heap.size, 2, none⟩ = some (.slice A2 n.f2.length c2)) (ds := []) #[false, false, false, false, false, false, false, false, false, false, false] (by kernel_rfl) rfl rfl ⟨a0, a1, a2⟩ (fun hHeld => ?_)
 refine pure_ (i := 2) (N := some 8) (v := ?_) (a' := ?_) #[false, false, true, false, false, false, false, false, false, false, false] rfl rfl (by kernel_rfl) (fun _ _ _ h => h) (Or.inl ⟨by rfl, ?_⟩) ?_ ?_
 rotate_left
 ·intro w'
  go_simp
  with_reducible rfl
 rotate_left
 ·simp only [Act.put, List.setIfInBounds_toArray, List.set_cons_zero, List.set_cons_succ, i64_w, i32_w]
  rfl
 refine take_ (i := 0) (N := some 6) (v := ?_) (a' := ?_) #[true, false, true, false, false, false, false, false, false, false, false] rfl rfl (by kernel_rfl) (fun _ _ _ h => h) (Or.inl ⟨by rfl, ?_⟩) hHeld ?_ ?_
 rotate_left
 ·rintro w' ⟨s0, s1, s2⟩
  go_simp
  with_reducible rfl
 rotate_left
 ·simp only [Act.put, List.setIfInBounds_toArray, List.set_cons_zero, List.set_cons_succ, i64_w, i32_w]
  rfl
 refine one_ (i := 1) (N := some 7) #[true, true, true, false, false, false, false, false, false, false, false] rfl rfl (by kernel_rfl) (by decide) (fun K hK => ?_)
 refine goes_ Tryd.func17 (by kernel_rfl) rfl #[.int .u32 11] (by rfl) rfl rfl (by (try simp only [List.map_toArray, List.map_cons, List.map_nil]); first | done | rfl) ?_
 refine (made_walk 11 oid_f11 _).mono ?_
 rintro e w3 ⟨v1, v2, rfl, ho3, hb3⟩
 refine ⟨_, rfl, ?_⟩
 obtain ⟨M1, m1, M2, m2, rfl, rfl, hm⟩ := ho3.form
 have HF := Lib.hid (HSEAL.out w3 M1 m1 M2 m2 ho3 hb3)
 clear ho3 hb3 hm
 refine hK.out _ _ HF.out.1 (fun hHeld => ?_)
 clear hK K
 refine norm_ (a' := ?_) ?_ ?_
 rotate_left
 ·show Act.put _ (some 7) _ = _
  simp only [Act.put, List.setIfInBounds_toArray, List.set_cons_zero, List.set_cons_succ, i64_w, i32_w]
  rfl
 refine one_ (i := 3) (N := some 9) #[true, true, true, true, false, false, false, false, false, false, false] rfl rfl (by kernel_rfl) (by decide) (fun K hK => ?_)
 refine goes_ Tryd.func18 (by kernel_rfl) rfl #[.slice As sig.length cs] (by rfl) rfl rfl (by (try simp only [List.map_toArray, List.map_cons, List.map_nil]); first | done | rfl) ?_
 refine (spki_whole.calls As cs sig 3 (0 :: sig) [] w3 HF.out.2.1 HF.out.2.2.1 HF.out.2.2.2.1).mono ?_
 rintro e w4 ⟨v1, v2, rfl, hv1, hv2, hb4⟩
 refine ⟨_, rfl, ?_⟩
 obtain ⟨W1, d1, rfl⟩ := Kd.R_slice hv1
 obtain ⟨W2, d2, rfl⟩ := Kd.R_slice hv2
 have HG := Lib.hid (HF.out.2.2.2.2 w4 W1 d1 W2 d2 hv1 hv2 hb4)
 clear hv1 hv2 hb4
 refine hK.out _ _ HG.out.1 (fun hHeld => ?_)
 clear hK K
 refine norm_ (a' := ?_) ?_ ?_
 rotate_left
 ·show Act.put _ (some 9) _ = _
  simp only [Act.put, List.setIfInBounds_toArray, List.set_cons_zero, List.set_cons_succ, i64_w, i32_w]
  rfl
 refine one_ (i := 4) (N := some 10) #[true, true, true, true, true, false, false, false, false, false, false] rfl rfl (by kernel_rfl) (by decide) (fun K hK => ?_)
 refine event_step (by rfl) (v := .slice (some ⟨w4.heap.size, 0, none⟩) 3 3) (w1 := w4.alloc (.cells #[.int .i64 n.f0, .slice A1 n.f1.length c1, .slice A2 n.f2.length c2, .int .i64 48, .slice M1 0 m1, .slice M2 2 m2, .int .i64 3, .slice W1 (sig.length + 1) d1, .slice W2 0 d2] 28)) (by go_simp; try rfl) ?_
 refine hK.out _ _ HG.out.2.1 (fun hHeld => ?_)
 clear hK K
 refine norm_ (a' := ?_) ?_ ?_
 rotate_left
 ·show Act.put _ (some 10) _ = _
  simp only [Act.put, List.setIfInBounds_toArray, List.set_cons_zero, List.set_cons_succ, i64_w, i32_w]
  rfl
 refine pure_ (i := 5) (N := some 11) (v := ?_) (a' := ?_) #[true, true, true, true, true, true, false, false, false, false, false] rfl rfl (by kernel_rfl) (fun _ _ _ h => h) (Or.inl ⟨by rfl, ?_⟩) ?_ ?_
 rotate_left
 ·intro w'
  go_simp
  with_reducible rfl
 rotate_left
 ·simp only [Act.put, List.setIfInBounds_toArray, List.set_cons_zero, List.set_cons_succ, i64_w, i32_w]
  rfl
 refine one_ (i := 6) (N := some 12) #[true, true, true, true, true, true, true, false, false, false, false] rfl rfl (by kernel_rfl) (by decide) (fun K hK => ?_)
 refine goes_ Tryd.func28 (by kernel_rfl) rfl #[.agg #[.int .i64 48, .slice none 0 0, .slice (some ⟨w4.heap.size, 0, none⟩) 3 3]] (by rfl) rfl rfl (by (try simp only [List.map_toArray, List.map_cons, List.map_nil]); first | done | rfl) ?_
 refine (HG.out.2.2).mono ?_
 rintro e w5 ⟨va, vb, rfl, hpo, hs5⟩
 refine ⟨_, rfl, ?_⟩
 refine hK.out _ _ hs5 (fun hHeld => ?_)
 clear hK K
 refine norm_ (a' := ?_) ?_ ?_
 rotate_left
 ·show Act.put _ (some 12) _ = _
  simp only [Act.put, List.setIfInBounds_toArray, List.set_cons_zero, List.set_cons_succ, i64_w, i32_w]
  rfl
 refine pure_ (i := 7) (N := some 13) (v := ?_) (a' := ?_) #[true, true, true, true, true, true, true, true, false, false, false] rfl rfl (by kernel_rfl) (fun _ _ _ h => h) (Or.inl ⟨by rfl, ?_⟩) ?_ ?_
 rotate_left
 ·intro w'
  go_simp
  with_reducible rfl
 rotate_left
 ·simp only [Act.put, List.setIfInBounds_toArray, List.set_cons_zero, List.set_cons_succ, i64_w, i32_w]
  rfl
 refine pure_ (i := 8) (N := some 14) (v := ?_) (a' := ?_) #[true, true, true, true, true, true, true, true, true, false, false] rfl rfl (by kernel_rfl) (fun _ _ _ h => h) (Or.inl ⟨by rfl, ?_⟩) ?_ ?_
 rotate_left
 ·intro w'
  go_simp
  with_reducible rfl
 rotate_left
 ·simp only [Act.put, List.setIfInBounds_toArray, List.set_cons_zero, List.set_cons_succ, i64_w, i32_w]
  rfl
 refine pure_ (i := 9) (N := some 4) (v := ?_) (a' := ?_) #[true, true, true, true, true, true, true, true, true, true, false] rfl rfl (by kernel_rfl) (fun _ _ _ h => h) (Or.inl ⟨by rfl, ?_⟩) ?_ ?_
 rotate_left
 ·intro w'
  go_simp
  with_reducible rfl
 rotate_left
 ·simp only [Act.put, List.setIfInBounds_toArray, List.set_cons_zero, List.set_cons_succ, i64_w, i32_w]
  rfl
 refine pure_ (i := 10) (N := some 5) (v := ?_) (a' := ?_) #[true, true, true, true, true, true, true, true, true, true, true] rfl rfl (by kernel_rfl) (fun _ _ _ h => h) (Or.inl ⟨by rfl, ?_⟩) ?_ ?_
 rotate_left
 ·intro w'
  go_simp
  with_reducible rfl
 rotate_left
 ·simp only [Act.put, List.setIfInBounds_toArray, List.set_cons_zero, List.set_cons_succ, i64_w, i32_w]
  rfl
 refine done_ (by kernel_rfl) ?_
 go_wp2
 exact hpo

end Go.Proofs.YtmbgjhkemlliaaaDoor.Tlv
end

section
namespace Go.Proofs.YtmbgjhkemlliaaaDoor.PT
open Go.RowKit Go.Proofs.YtmbgjhkemlliaaaDoorW.PrintWords Go.Proofs.YtmbgjhkemlliaaaDoorW.PrintLast Go.Proofs.YtmbgjhkemlliaaaDoorW.PrintMore
attribute [local go_sem] max2_int min2_int max_two min_two max_three min_three max_four min_four   -- for this text's walks alone
set_option linter.unusedVariables false
set_option linter.unusedSimpArgs false

def bytes_Equal.f (l0 : List Int) (l1 : List Int) : Option (Bool) := some ((strOfNums l0).toList == (strOfNums l1).toList)
set_option maxHeartbeats 8000000 in
set_option maxRecDepth 100000 in
theorem bytes_Equal.calls (A0 : Option Addr) (c0 : Nat) (l0 : List Int) (A1 : Option Addr) (c1 : Nat) (l1 : List Int) (r : Bool) (w : World) (hr0 : Kd.C (Kd.int .u8) w A0 l0.length l0) (hc0 : l0.length ≤ c0) (hr1 : Kd.C (Kd.int .u8) w A1 l1.length l1) (hc1 : l1.length ≤ c1) (h : bytes_Equal.f l0 l1 = some r) :
 Calls Tryd.prog 47 #[.slice A0 l0.length c0, .slice A1 l1.length c1] w fun e w' => e = .returned (.bool r) ∧ Drawn0 w w' := by
 have HR0 := Aside0.mk hr0
 have HC0 := Aside0.mk hc0
 clear hr0 hc0
 have HR1 := Aside0.mk hr1
 have HC1 := Aside0.mk hc1
 clear hr1 hc1
 have H : (some ((strOfNums l0).toList == (strOfNums l1).toList)) = some r := h
 clear h
 obtain rfl := Option.some.inj H
 have hcv3 := Kd.C_string (P := Tryd.prog) (A := A0) (c := c0) Tryd.underlying22 Tryd.underlying5 Tryd.underlying9 HR0.out
 have hcv4 := Kd.C_string (P := Tryd.prog) (A := A1) (c := c1) Tryd.underlying22 Tryd.underlying5 Tryd.underlying9 HR1.out
 go_enter Tryd.func47, Tryd.ntmps47
 go_wp2
 go_ret
 exact ⟨by first | rfl | (simp; done) | (simp [*]; done), by repeat (first | exact Drawn0.refl _ | apply Drawn0.step)⟩

end Go.Proofs.YtmbgjhkemlliaaaDoor.PT
end

section
namespace Go.Proofs.YtmbgjhkemlliaaaDoor.PT
open Go.RowKit Go.Proofs.YtmbgjhkemlliaaaDoorW.PrintWords Go.Proofs.YtmbgjhkemlliaaaDoorW.PrintLast Go.Proofs.YtmbgjhkemlliaaaDoorW.PrintMore
attribute [local go_sem] max2_int min2_int max_two min_two max_three min_three max_four min_four   -- for this text's walks alone
set_option linter.unusedVariables false
set_option linter.unusedSimpArgs false

def scalar_same.f (a0_0 : Int) (l0_1 : List Int) (l0_2 : List (S28)) (a1_0 : Int) (l1_1 : List Int) (l1_2 : List (S28)) : Option (Bool) := if a0_0 = a1_0 then ((bytes_Equal.f l0_1 l1_1).bind fun t116 => (if t116 = true then (some ((wrap64 ((l0_2.length : Int) + (l1_2.length : Int))) == 0)) else (some false))) else (some false)
set_option maxHeartbeats 8000000 in
set_option maxRecDepth 100000 in
theorem scalar_same.calls (a0_0 : Int) (A0_1 : Option Addr) (c0_1 : Nat) (l0_1 : List Int) (A0_2 : Option Addr) (c0_2 : Nat) (l0_2 : List (S28)) (a1_0 : Int) (A1_1 : Option Addr) (c1_1 : Nat) (l1_1 : List Int) (A1_2 : Option Addr) (c1_2 : Nat) (l1_2 : List (S28)) (r : Bool) (w : World) (hr0_1 : Kd.C (Kd.int .u8) w A0_1 l0_1.length l0_1) (hc0_1 : l0_1.length ≤ c0_1) (hr0_2 : Kd.C k28 w A0_2 l0_2.length l0_2) (hc0_2 : l0_2.length ≤ c0_2) (hr1_1 : Kd.C (Kd.int .u8) w A1_1 l1_1.length l1_1) (hc1_1 : l1_1.length ≤ c1_1) (hr1_2 : Kd.C k28 w A1_2 l1_2.length l1_2) (hc1_2 : l1_2.length ≤ c1_2) (h : scalar_same.f a0_0 l0_1 l0_2 a1_0 l1_1 l1_2 = some r) :
 Calls Tryd.prog 55 #[.agg #[.int .i64 a0_0, .slice A0_1 l0_1.length c0_1, .slice A0_2 l0_2.length c0_2], .agg #[.int .i64 a1_0, .slice A1_1 l1_1.length c1_1, .slice A1_2 l1_2.length c1_2]] w fun e w' => e = .returned (.bool r) ∧ Below w.heap.size w w' := by
 have hu28 := Tryd.underlying28
 have HR0_1 := Aside0.mk hr0_1
 have HC0_1 := Aside0.mk hc0_1
 clear hr0_1 hc0_1
 have HR0_2 := Aside0.mk hr0_2
 have HC0_2 := Aside0.mk hc0_2
 clear hr0_2 hc0_2
 have HR1_1 := Aside0.mk hr1_1
 have HC1_1 := Aside0.mk hc1_1
 clear hr1_1 hc1_1
 have HR1_2 := Aside0.mk hr1_2
 have HC1_2 := Aside0.mk hc1_2
 clear hr1_2 hc1_2
 have HB := Aside0.mk (Below.refl w.heap.size w)
 have H : (if a0_0 = a1_0 then ((bytes_Equal.f l0_1 l1_1).bind fun t116 => (if t116 = true then (some ((wrap64 ((l0_2.length : Int) + (l1_2.length : Int))) == 0)) else (some false))) else (some false)) = some r := h
 clear h
 by_cases c3 : a0_0 = a1_0
 ·rw [if_pos c3] at H
  have c3b0 : (a0_0 == a1_0) = true := beq_iff_eq.mpr c3
  have c3b1 : (a0_0 != a1_0) = false := bne_eq_false_iff_eq.mpr c3
  clear c3
  replace H := Option.bind_eq_some_iff.mp H
  obtain ⟨t116, A40, H⟩ := H
  replace H : (if t116 = true then (some ((wrap64 ((l0_2.length : Int) + (l1_2.length : Int))) == 0)) else (some false)) = some r := H
  have A4 := Aside0.mk A40
  clear A40
  by_cases c5 : t116 = true
  ·subst c5
   have H1 : (some ((wrap64 ((l0_2.length : Int) + (l1_2.length : Int))) == 0)) = some r := by rw [if_pos rfl] at H; exact H
   clear H
   have H := H1
   clear H1
   obtain rfl := Option.some.inj H
   go_enter Tryd.func55, Tryd.ntmps55
   go_wp2_with (first | ((with_reducible refine gate_dst (N := 2) rfl ?_); (try (refine gate_guard (by rfl) ?_; dsimp only)); refine box_event ?hg (N := 2) ?hd (cs := #[.int .i64 a0_0, .slice A0_1 l0_1.length c0_1, .slice A0_2 l0_2.length c0_2]) (t := 28) ?hr ?_; (case hd => rfl); (case hg => rfl); (case hr => first | (go_simp; done) | (go_simp; rfl)); intro gb114 hg w6 hbox hb; have n0_ := Aside0.mk (below_step (by repeat (first | (with_reducible first | exact HB.out | apply below_alloc | apply pw_below_drewN | apply below_drew1) | exact HB.out)) hb); have n1_ := Aside0.mk (hbox); have n2_ := Aside0.mk ((by rw [hg]; exact (below_size (by repeat (first | (with_reducible first | exact HB.out | apply below_alloc | apply pw_below_drewN | apply below_drew1) | exact HB.out))) : w.heap.size ≤ gb114)); have n3_ := Aside0.mk ((by rw [hg]; exact (below_size (by repeat (first | (with_reducible first | exact HB.out | apply below_alloc | apply pw_below_drewN | apply below_drew1) | exact HB.out))) : w.heap.size ≤ gb114)); clear HB; have HB := n0_; have BK114 := n1_; have GW114 := n2_; have GE114 := n3_; clear n0_ n1_ n2_ n3_; clear hb hbox hg) | ((with_reducible refine gate_dst (N := 3) rfl ?_); (try (refine gate_guard (by rfl) ?_; dsimp only)); refine box_event ?hg (N := 3) ?hd (cs := #[.int .i64 a1_0, .slice A1_1 l1_1.length c1_1, .slice A1_2 l1_2.length c1_2]) (t := 28) ?hr ?_; (case hd => rfl); (case hg => rfl); (case hr => first | (go_simp; done) | (go_simp; rfl)); intro gb115 hg w7 hbox hb; have n0_ := Aside0.mk (blk_below (g := gb114) (o := .cells #[.int .i64 a0_0, .slice A0_1 l0_1.length c0_1, .slice A0_2 l0_2.length c0_2] 28 (0, 0)) (by (with_reducible repeat (first | refine blk_drewN ?_ _ | refine blk_drew ?_ | refine blk_alloc ?_ _)); exact BK114.out) hb); have n1_ := Aside0.mk (below_step (by repeat (first | (with_reducible first | exact HB.out | apply below_alloc | apply pw_below_drewN | apply below_drew1 | refine below_set ?_ GE114.out) | exact HB.out)) hb); have n2_ := Aside0.mk (hbox); have n3_ := Aside0.mk ((by rw [hg]; exact (below_size (by repeat (first | (with_reducible first | exact HB.out | apply below_alloc | apply pw_below_drewN | apply below_drew1 | refine below_set ?_ GE114.out) | exact HB.out))) : w.heap.size ≤ gb115)); have n4_ := Aside0.mk ((by rw [hg]; exact (below_size (by repeat (first | (with_reducible first | exact HB.out | apply below_alloc | apply pw_below_drewN | apply below_drew1 | refine below_set ?_ GE114.out) | exact HB.out))) : w.heap.size ≤ gb115)); have n5_ := Aside0.mk ((by rw [hg]; exact Nat.ne_of_lt (blk_lt (g := gb114) (o := .cells #[.int .i64 a0_0, .slice A0_1 l0_1.length c0_1, .slice A0_2 l0_2.length c0_2] 28 (0, 0)) (by (with_reducible repeat (first | refine blk_drewN ?_ _ | refine blk_drew ?_ | refine blk_alloc ?_ _)); exact BK114.out)) : gb114 ≠ gb115)); have n6_ := Aside0.mk ((by rw [hg]; exact Nat.ne_of_gt (blk_lt (g := gb114) (o := .cells #[.int .i64 a0_0, .slice A0_1 l0_1.length c0_1, .slice A0_2 l0_2.length c0_2] 28 (0, 0)) (by (with_reducible repeat (first | refine blk_drewN ?_ _ | refine blk_drew ?_ | refine blk_alloc ?_ _)); exact BK114.out)) : gb115 ≠ gb114)); clear BK114; clear HB; have BK114 := n0_; have HB := n1_; have BK115 := n2_; have GW115 := n3_; have GE115 := n4_; have NB114_115 := n5_; have NB115_114 := n6_; clear n0_ n1_ n2_ n3_ n4_ n5_ n6_; clear hb hbox hg; have hnb8 := NB114_115.out; have hnc8 := NB115_114.out; have hcz9_0 : w7.cell? ⟨gb114, 0, none⟩ = some (.int .i64 a0_0) := (blk_cell BK114.out 0).trans rfl; have hcz9_1 : w7.cell? ⟨gb114, 1, none⟩ = some (.slice A0_1 l0_1.length c0_1) := (blk_cell BK114.out 1).trans rfl; have hcz9_2 : w7.cell? ⟨gb114, 2, none⟩ = some (.slice A0_2 l0_2.length c0_2) := (blk_cell BK114.out 2).trans rfl; have hfz9_0 := blk_frozen BK114.out 0; have hfz9_1 := blk_frozen BK114.out 1; have hfz9_2 := blk_frozen BK114.out 2; have hcz10_0 : w7.cell? ⟨gb115, 0, none⟩ = some (.int .i64 a1_0) := (blk_cell BK115.out 0).trans rfl; have hcz10_1 : w7.cell? ⟨gb115, 1, none⟩ = some (.slice A1_1 l1_1.length c1_1) := (blk_cell BK115.out 1).trans rfl; have hcz10_2 : w7.cell? ⟨gb115, 2, none⟩ = some (.slice A1_2 l1_2.length c1_2) := (blk_cell BK115.out 2).trans rfl; have hfz10_0 := blk_frozen BK115.out 0; have hfz10_1 := blk_frozen BK115.out 1; have hfz10_2 := blk_frozen BK115.out 2) | (go_at_call 47; (with_reducible refine (bytes_Equal.calls _ _ l0_1 _ _ l1_1 true _ ?side1 ?side2 ?side3 ?side4 A4.out).mono ?_); (case side1 => repeat (first | exact (Kd.C_below HR0_1.out HB.out) | (with_reducible refine Kd.C_alloc ?_ _) | (with_reducible refine Kd.C_drewN ?_ _) | (with_reducible refine Kd.C_drew ?_))); (case side2 => exact HC0_1.out); (case side3 => repeat (first | exact (Kd.C_below HR1_1.out HB.out) | (with_reducible refine Kd.C_alloc ?_ _) | (with_reducible refine Kd.C_drewN ?_ _) | (with_reducible refine Kd.C_drew ?_))); (case side4 => exact HC1_1.out); rintro e w' ⟨rfl, ⟨nd, rfl⟩⟩))
   go_ret
   exact ⟨by first | rfl | (simp [errW_none, errW_some] <;> rfl) | (simp [*, errW_none, errW_some] <;> rfl), by repeat (first | (with_reducible first | exact HB.out | apply below_alloc | apply pw_below_drewN | apply below_drew1 | refine below_set ?_ GE114.out | refine below_set ?_ GE115.out) | exact HB.out)⟩
  ·replace c5 := Bool.eq_false_iff.mpr c5
   subst c5
   have H1 : (some false) = some r := by rw [if_neg (show ¬ (false = true) by decide)] at H; exact H
   clear H
   have H := H1
   clear H1
   obtain rfl := Option.some.inj H
   go_enter Tryd.func55, Tryd.ntmps55
   go_wp2_with (first | ((with_reducible refine gate_dst (N := 2) rfl ?_); (try (refine gate_guard (by rfl) ?_; dsimp only)); refine box_event ?hg (N := 2) ?hd (cs := #[.int .i64 a0_0, .slice A0_1 l0_1.length c0_1, .slice A0_2 l0_2.length c0_2]) (t := 28) ?hr ?_; (case hd => rfl); (case hg => rfl); (case hr => first | (go_simp; done) | (go_simp; rfl)); intro gb114 hg w11 hbox hb; have n0_ := Aside0.mk (below_step (by repeat (first | (with_reducible first | exact HB.out | apply below_alloc | apply pw_below_drewN | apply below_drew1) | exact HB.out)) hb); have n1_ := Aside0.mk (hbox); have n2_ := Aside0.mk ((by rw [hg]; exact (below_size (by repeat (first | (with_reducible first | exact HB.out | apply below_alloc | apply pw_below_drewN | apply below_drew1) | exact HB.out))) : w.heap.size ≤ gb114)); have n3_ := Aside0.mk ((by rw [hg]; exact (below_size (by repeat (first | (with_reducible first | exact HB.out | apply below_alloc | apply pw_below_drewN | apply below_drew1) | exact HB.out))) : w.heap.size ≤ gb114)); clear HB; have HB := n0_; have BK114 := n1_; have GW114 := n2_; have GE114 := n3_; clear n0_ n1_ n2_ n3_; clear hb hbox hg) | ((with_reducible refine gate_dst (N := 3) rfl ?_); (try (refine gate_guard (by rfl) ?_; dsimp only)); refine box_event ?hg (N := 3) ?hd (cs := #[.int .i64 a1_0, .slice A1_1 l1_1.length c1_1, .slice A1_2 l1_2.length c1_2]) (t := 28) ?hr ?_; (case hd => rfl); (case hg => rfl); (case hr => first | (go_simp; done) | (go_simp; rfl)); intro gb115 hg w12 hbox hb; have n0_ := Aside0.mk (blk_below (g := gb114) (o := .cells #[.int .i64 a0_0, .slice A0_1 l0_1.length c0_1, .slice A0_2 l0_2.length c0_2] 28 (0, 0)) (by (with_reducible repeat (first | refine blk_drewN ?_ _ | refine blk_drew ?_ | refine blk_alloc ?_ _)); exact BK114.out) hb); have n1_ := Aside0.mk (below_step (by repeat (first | (with_reducible first | exact HB.out | apply below_alloc | apply pw_below_drewN | apply below_drew1 | refine below_set ?_ GE114.out) | exact HB.out)) hb); have n2_ := Aside0.mk (hbox); have n3_ := Aside0.mk ((by rw [hg]; exact (below_size (by repeat (first | (with_reducible first | exact HB.out | apply below_alloc | apply pw_below_drewN | apply below_drew1 | refine below_set ?_ GE114.out) | exact HB.out))) : w.heap.size ≤ gb115)); have n4_ := Aside0.mk ((by rw [hg]; exact (below_size (by repeat (first | (with_reducible first | exact HB.out | apply below_alloc | apply pw_below_drewN | apply below_drew1 | refine below_set ?_ GE114.out) | exact HB.out))) : w.heap.size ≤ gb115)); have n5_ := Aside0.mk ((by rw [hg]; exact Nat.ne_of_lt (blk_lt (g := gb114) (o := .cells #[.int .i64 a0_0, .slice A0_1 l0_1.length c0_1, .slice A0_2 l0_2.length c0_2] 28 (0, 0)) (by (with_reducible repeat (first | refine blk_drewN ?_ _ | refine blk_drew ?_ | refine blk_alloc ?_ _)); exact BK114.out)) : gb114 ≠ gb115)); have n6_ := Aside0.mk ((by rw [hg]; exact Nat.ne_of_gt (blk_lt (g := gb114) (o := .cells #[.int .i64 a0_0, .slice A0_1 l0_1.length c0_1, .slice A0_2 l0_2.length c0_2] 28 (0, 0)) (by (with_reducible repeat (first | refine blk_drewN ?_ _ | refine blk_drew ?_ | refine blk_alloc ?_ _)); exact BK114.out)) : gb115 ≠ gb114)); clear BK114; clear HB; have BK114 := n0_; have HB := n1_; have BK115 := n2_; have GW115 := n3_; have GE115 := n4_; have NB114_115 := n5_; have NB115_114 := n6_; clear n0_ n1_ n2_ n3_ n4_ n5_ n6_; clear hb hbox hg; have hnb13 := NB114_115.out; have hnc13 := NB115_114.out; have hcz14_0 : w12.cell? ⟨gb114, 0, none⟩ = some (.int .i64 a0_0) := (blk_cell BK114.out 0).trans rfl; have hcz14_1 : w12.cell? ⟨gb114, 1, none⟩ = some (.slice A0_1 l0_1.length c0_1) := (blk_cell BK114.out 1).trans rfl; have hcz14_2 : w12.cell? ⟨gb114, 2, none⟩ = some (.slice A0_2 l0_2.length c0_2) := (blk_cell BK114.out 2).trans rfl; have hfz14_0 := blk_frozen BK114.out 0; have hfz14_1 := blk_frozen BK114.out 1; have hfz14_2 := blk_frozen BK114.out 2; have hcz15_0 : w12.cell? ⟨gb115, 0, none⟩ = some (.int .i64 a1_0) := (blk_cell BK115.out 0).trans rfl; have hcz15_1 : w12.cell? ⟨gb115, 1, none⟩ = some (.slice A1_1 l1_1.length c1_1) := (blk_cell BK115.out 1).trans rfl; have hcz15_2 : w12.cell? ⟨gb115, 2, none⟩ = some (.slice A1_2 l1_2.length c1_2) := (blk_cell BK115.out 2).trans rfl; have hfz15_0 := blk_frozen BK115.out 0; have hfz15_1 := blk_frozen BK115.out 1; have hfz15_2 := blk_frozen BK115.out 2) | (go_at_call 47; (with_reducible refine (bytes_Equal.calls _ _ l0_1 _ _ l1_1 false _ ?side1 ?side2 ?side3 ?side4 A4.out).mono ?_); (case side1 => repeat (first | exact (Kd.C_below HR0_1.out HB.out) | (with_reducible refine Kd.C_alloc ?_ _) | (with_reducible refine Kd.C_drewN ?_ _) | (with_reducible refine Kd.C_drew ?_))); (case side2 => exact HC0_1.out); (case side3 => repeat (first | exact (Kd.C_below HR1_1.out HB.out) | (with_reducible refine Kd.C_alloc ?_ _) | (with_reducible refine Kd.C_drewN ?_ _) | (with_reducible refine Kd.C_drew ?_))); (case side4 => exact HC1_1.out); rintro e w' ⟨rfl, ⟨nd, rfl⟩⟩))
   go_ret
   exact ⟨by first | rfl | (simp [errW_none, errW_some] <;> rfl) | (simp [*, errW_none, errW_some] <;> rfl), by repeat (first | (with_reducible first | exact HB.out | apply below_alloc | apply pw_below_drewN | apply below_drew1 | refine below_set ?_ GE114.out | refine below_set ?_ GE115.out) | exact HB.out)⟩
 ·rw [if_neg c3] at H
  have c3b0 : (a0_0 == a1_0) = false := beq_eq_false_iff_ne.mpr c3
  have c3b1 : (a0_0 != a1_0) = true := bne_iff_ne.mpr c3
  obtain rfl := Option.some.inj H
  go_enter Tryd.func55, Tryd.ntmps55
  go_wp2_with (first | ((with_reducible refine gate_dst (N := 2) rfl ?_); (try (refine gate_guard (by rfl) ?_; dsimp only)); refine box_event ?hg (N := 2) ?hd (cs := #[.int .i64 a0_0, .slice A0_1 l0_1.length c0_1, .slice A0_2 l0_2.length c0_2]) (t := 28) ?hr ?_; (case hd => rfl); (case hg => rfl); (case hr => first | (go_simp; done) | (go_simp; rfl)); intro gb114 hg w16 hbox hb; have n0_ := Aside0.mk (below_step (by repeat (first | (with_reducible first | exact HB.out | apply below_alloc | apply pw_below_drewN | apply below_drew1) | exact HB.out)) hb); have n1_ := Aside0.mk (hbox); have n2_ := Aside0.mk ((by rw [hg]; exact (below_size (by repeat (first | (with_reducible first | exact HB.out | apply below_alloc | apply pw_below_drewN | apply below_drew1) | exact HB.out))) : w.heap.size ≤ gb114)); have n3_ := Aside0.mk ((by rw [hg]; exact (below_size (by repeat (first | (with_reducible first | exact HB.out | apply below_alloc | apply pw_below_drewN | apply below_drew1) | exact HB.out))) : w.heap.size ≤ gb114)); clear HB; have HB := n0_; have BK114 := n1_; have GW114 := n2_; have GE114 := n3_; clear n0_ n1_ n2_ n3_; clear hb hbox hg) | ((with_reducible refine gate_dst (N := 3) rfl ?_); (try (refine gate_guard (by rfl) ?_; dsimp only)); refine box_event ?hg (N := 3) ?hd (cs := #[.int .i64 a1_0, .slice A1_1 l1_1.length c1_1, .slice A1_2 l1_2.length c1_2]) (t := 28) ?hr ?_; (case hd => rfl); (case hg => rfl); (case hr => first | (go_simp; done) | (go_simp; rfl)); intro gb115 hg w17 hbox hb; have n0_ := Aside0.mk (blk_below (g := gb114) (o := .cells #[.int .i64 a0_0, .slice A0_1 l0_1.length c0_1, .slice A0_2 l0_2.length c0_2] 28 (0, 0)) (by (with_reducible repeat (first | refine blk_drewN ?_ _ | refine blk_drew ?_ | refine blk_alloc ?_ _)); exact BK114.out) hb); have n1_ := Aside0.mk (below_step (by repeat (first | (with_reducible first | exact HB.out | apply below_alloc | apply pw_below_drewN | apply below_drew1 | refine below_set ?_ GE114.out) | exact HB.out)) hb); have n2_ := Aside0.mk (hbox); have n3_ := Aside0.mk ((by rw [hg]; exact (below_size (by repeat (first | (with_reducible first | exact HB.out | apply below_alloc | apply pw_below_drewN | apply below_drew1 | refine below_set ?_ GE114.out) | exact HB.out))) : w.heap.size ≤ gb115)); have n4_ := Aside0.mk ((by rw [hg]; exact (below_size (by repeat (first | (with_reducible first | exact HB.out | apply below_alloc | apply pw_below_drewN | apply below_drew1 | refine below_set ?_ GE114.out) | exact HB.out))) : w.heap.size ≤ gb115)); have n5_ := Aside0.mk ((by rw [hg]; exact Nat.ne_of_lt (blk_lt (g := gb114) (o := .cells #[.int .i64 a0_0, .slice A0_1 l0_1.length c0_1, .slice A0_2 l0_2.length c0_2] 28 (0, 0)) (by (with_reducible repeat (first | refine blk_drewN ?_ _ | refine blk_drew ?_ | refine blk_alloc ?_ _)); exact BK114.out)) : gb114 ≠ gb115)); have n6_ := Aside0.mk ((by rw [hg]; exact Nat.ne_of_gt (blk_lt (g := gb114) (o := .cells #[.int .i64 a0_0, .slice A0_1 l0_1.length c0_1, .slice A0_2 l0_2.length c0_2] 28 (0, 0)) (by (with_reducible repeat (first | refine blk_drewN ?_ _ | refine blk_drew ?_ | refine blk_alloc ?_ _)); exact BK114.out)) : gb115 ≠ gb114)); clear BK114; clear HB; have BK114 := n0_; have HB := n1_; have BK115 := n2_; have GW115 := n3_; have GE115 := n4_; have NB114_115 := n5_; have NB115_114 := n6_; clear n0_ n1_ n2_ n3_ n4_ n5_ n6_; clear hb hbox hg; have hnb18 := NB114_115.out; have hnc18 := NB115_114.out; have hcz19_0 : w17.cell? ⟨gb114, 0, none⟩ = some (.int .i64 a0_0) := (blk_cell BK114.out 0).trans rfl; have hcz19_1 : w17.cell? ⟨gb114, 1, none⟩ = some (.slice A0_1 l0_1.length c0_1) := (blk_cell BK114.out 1).trans rfl; have hcz19_2 : w17.cell? ⟨gb114, 2, none⟩ = some (.slice A0_2 l0_2.length c0_2) := (blk_cell BK114.out 2).trans rfl; have hfz19_0 := blk_frozen BK114.out 0; have hfz19_1 := blk_frozen BK114.out 1; have hfz19_2 := blk_frozen BK114.out 2; have hcz20_0 : w17.cell? ⟨gb115, 0, none⟩ = some (.int .i64 a1_0) := (blk_cell BK115.out 0).trans rfl; have hcz20_1 : w17.cell? ⟨gb115, 1, none⟩ = some (.slice A1_1 l1_1.length c1_1) := (blk_cell BK115.out 1).trans rfl; have hcz20_2 : w17.cell? ⟨gb115, 2, none⟩ = some (.slice A1_2 l1_2.length c1_2) := (blk_cell BK115.out 2).trans rfl; have hfz20_0 := blk_frozen BK115.out 0; have hfz20_1 := blk_frozen BK115.out 1; have hfz20_2 := blk_frozen BK115.out 2))
  go_ret
  exact ⟨by first | rfl | (simp [errW_none, errW_some] <;> rfl) | (simp [*, errW_none, errW_some] <;> rfl), by repeat (first | (with_reducible first | exact HB.out | apply below_alloc | apply pw_below_drewN | apply below_drew1 | refine below_set ?_ GE114.out | refine below_set ?_ GE115.out) | exact HB.out)⟩

end Go.Proofs.YtmbgjhkemlliaaaDoor.PT
end

section
set_option linter.unusedVariables false
set_option linter.unusedSimpArgs false
namespace Go.Proofs.YtmbgjhkemlliaaaDoor.Tlv
open Go.RowKit Go.Proofs.YtmbgjhkemlliaaaDoorW.PrintWords Go.Proofs.YtmbgjhkemlliaaaDoorW.PrintLast Go.Proofs.YtmbgjhkemlliaaaDoorW.PrintMore Go.Proofs.YtmbgjhkemlliaaaDoor.PT

theorem nums_of (x : List Int) (h : ∀ v ∈ x, 0 ≤ v ∧ v < 256) : x = (strOfNums x).data.toList.map fun b => (b.toNat : Int) := by
 rw [strOfNums_data, List.map_map]
 symm
 rw [List.map_congr_left (g := id) (fun v hv => ?_), List.map_id]
 have := h v hv
 have hk : v.toNat < 256 := by omega
 show ((UInt8.ofNat v.toNat).toNat : Int) = v
 have e : (UInt8.ofNat v.toNat).toNat = v.toNat := by simp; omega
 rw [e]
 omega
def eqB (x y : List Int) : Bool := (strOfNums x).toList == (strOfNums y).toList
theorem eqB_rfl (x : List Int) : eqB x x = true := by unfold eqB; exact beq_self_eq_true _
theorem eqB_eq {x y : List Int} (hx : ∀ v ∈ x, 0 ≤ v ∧ v < 256) (hy : ∀ v ∈ y, 0 ≤ v ∧ v < 256) (h : eqB x y = true) : x = y := by
 unfold eqB at h
 have h := eq_of_beq h
 rw [Lib.strOfNums_toList, Lib.strOfNums_toList] at h
 rw [nums_of x hx, nums_of y hy, strOfNums_data, strOfNums_data]
 exact congrArg _ h
def sameP (a b : T) : Bool := match writeP a with
 | .err _ => false
 | .ok x => match writeP b with
  | .err _ => false
  | .ok y => eqB x y
theorem writeP_err {t : T} {x : Int} (h : writeP t = .err x) : x = 2 ∨ x = 4 ∨ x = 5 := by
 unfold writeP at h
 split at h
 ·injection h with h; omega
 ·split at h
  ·injection h with h; omega
  ·split at h
   ·injection h with h; omega
   ·cases h
/-- What Write gives, in one form. -/
def WriteUni (w : World) (n : T) (e : Ending) (w' : World) : Prop := ∃ A l c x, e = .returned (.tuple #[.slice A (List.length l) c, .int .i64 x]) ∧ ((x ≠ 0 ∧ writeP n = .err x) ∨ (x = 0 ∧ writeP n = .ok l)) ∧ (Kd.int .u8).R 5 w' w.heap.size (fun _ => True) (.slice A l.length c) l ∧ Below w.heap.size w w'
theorem WritePost.uni {w : World} {n : T} {e : Ending} {w' : World} (h : WritePost w n e w') : WriteUni w n e w' := by
 unfold WritePost at h
 cases hq : writeP n with
 | err x =>
  rw [hq] at h
  obtain ⟨rfl, hb⟩ := h
  exact ⟨none, [], 0, x, rfl, .inl ⟨by have := writeP_err hq; omega, hq⟩, Kd.R_nil _ _ _ _ _, hb⟩
 | ok l =>
  rw [hq] at h
  obtain ⟨A, c, rfl, ho, hb⟩ := h
  exact ⟨A, l, c, 0, rfl, .inr ⟨rfl, hq⟩, ho, hb⟩

def resW : Res (List Int) → List Int × Int
 | .err e => ([], e)
 | .ok l => (l, 0)
/-- What Write gives, with no bytes beside an error. -/
def WriteR (w : World) (n : T) (e : Ending) (w' : World) : Prop := ∃ A l c x, e = .returned (.tuple #[.slice A (List.length l) c, .int .i64 x]) ∧ resW (writeP n) = (l, x) ∧ (Kd.int .u8).R 5 w' w.heap.size (fun _ => True) (.slice A l.length c) l ∧ Below w.heap.size w w'
theorem WritePost.R {w : World} {n : T} {e : Ending} {w' : World} (h : WritePost w n e w') : WriteR w n e w' := by
 unfold WritePost at h
 unfold WriteR
 cases hq : writeP n with
 | err x =>
  rw [hq] at h
  obtain ⟨rfl, hb⟩ := h
  exact ⟨none, [], 0, x, rfl, rfl, Kd.R_nil _ _ _ _ _, hb⟩
 | ok l =>
  rw [hq] at h
  obtain ⟨A, c, rfl, ho, hb⟩ := h
  exact ⟨A, l, c, 0, rfl, rfl, ho, hb⟩

set_option maxHeartbeats 4000000 in
set_option maxRecDepth 100000 in
theorem same_walk (a b : T) (ha : rightT a = true → sizeT a ≤ 100000000) (hb : rightT b = true → sizeT b ≤ 100000000) (A1 : Option Addr) (c1 : Nat) (A2 : Option Addr) (c2 : Nat) (B1 : Option Addr) (d1 : Nat) (B2 : Option Addr) (d2 : Nat) (w : World) (hna : NodeAt w a A1 c1 A2 c2) (hnb : NodeAt w b B1 d1 B2 d2) :
 Calls Tryd.prog 27 #[.agg #[.int .i64 a.f0, .slice A1 a.f1.length c1, .slice A2 a.f2.length c2], .agg #[.int .i64 b.f0, .slice B1 b.f1.length d1, .slice B2 b.f2.length d2]] w fun e w' => e = .returned (.bool (sameP a b)) ∧ Below w.heap.size w w' := by
 have HW1 := Lib.hid (fun (w1 : World) (hB : Below w.heap.size w w1) => write_walk a ha A1 c1 A2 c2 w1 (hna.below hB))
 have HW2 := Lib.hid (fun (w1 : World) (hB : Below w.heap.size w w1) => write_walk b hb B1 d1 B2 d2 w1 (hnb.below hB))
 have hbox : ((w.alloc (.cells #[.int .i64 a.f0, .slice A1 a.f1.length c1, .slice A2 a.f2.length c2] 28)).alloc (.cells #[.int .i64 b.f0, .slice B1 b.f1.length d1, .slice B2 b.f2.length d2] 28)).heap[w.heap.size + 1]? = some (.cells #[.int .i64 b.f0, .slice B1 b.f1.length d1, .slice B2 b.f2.length d2] 28 (0, 0)) := by
  have := heap_alloc_new (w.alloc (.cells #[.int .i64 a.f0, .slice A1 a.f1.length c1, .slice A2 a.f2.length c2] 28)) (.cells #[.int .i64 b.f0, .slice B1 b.f1.length d1, .slice B2 b.f2.length d2] 28)
  simpa using this
 have hB : Below w.heap.size w ((w.alloc (.cells #[.int .i64 a.f0, .slice A1 a.f1.length c1, .slice A2 a.f2.length c2] 28)).alloc (.cells #[.int .i64 b.f0, .slice B1 b.f1.length d1, .slice B2 b.f2.length d2] 28)) := ((Below.refl _ _).alloc (Nat.le_refl _) _).alloc (by simp) _
 have HBOX := Lib.hid hbox
 have HB := Lib.hid hB
 clear hbox hB hna hnb ha hb
 generalize hSP : sameP a b = sp
 go_enter Tryd.func27, Tryd.ntmps27
 go_wp2_with (fail)
 refine (HW1.out _ HB.out).mono ?_
 rintro e w2 h2
 obtain ⟨X1, l1, e1, x1, rfl, hx1, hr1, hB2⟩ := WritePost.uni h2
 have hb2 := (hB2.block _ (heap_lt HBOX.out)).trans HBOX.out
 have hBw2 := HB.out.trans (hB2.mono HB.out.size)
 have a0 := Lib.cell_of_heap hb2 0
 have a1 := Lib.cell_of_heap hb2 1
 have a2 := Lib.cell_of_heap hb2 2
 have HB2 := Lib.hid hBw2
 have HR1 := Lib.hid hr1
 have HX1 := Lib.hid hx1
 clear h2 hB2 hb2 hBw2 hr1 hx1
 go_wp2_with (fail)
 refine (HW2.out _ HB2.out).mono ?_
 rintro e w3 h3
 obtain ⟨X2, l2, e2, x2, rfl, hx2, hr2, hB3⟩ := WritePost.uni h3
 have hBw3 := HB2.out.trans (hB3.mono HB2.out.size)
 have HB3 := Lib.hid hBw3
 have HR13 := Lib.hid (Kd.R_below HR1.out hB3)
 have HR2 := Lib.hid hr2
 clear h3 hB3 hBw3 hr2 a0 a1 a2
 rcases HX1.out with ⟨n1, q1⟩ | ⟨rfl, q1⟩
 ·have hp : sp = false := by rw [← hSP]; unfold sameP; rw [q1]
  clear hSP
  subst hp
  have hn1 := eq_false n1
  have hn1' : decide (x1 = 0) = false := decide_eq_false n1
  clear HX1 hx2 n1 q1
  go_wp2
  go_ret
  exact ⟨by simp [hn1], HB3.out⟩
 ·rcases hx2 with ⟨n2, q2⟩ | ⟨rfl, q2⟩
  ·have hp : sp = false := by rw [← hSP]; unfold sameP; rw [q1, q2]
   clear hSP
   subst hp
   have hn2 := eq_false n2
   have hn2' : decide (x2 = 0) = false := decide_eq_false n2
   clear HX1 n2 q1 q2
   go_wp2
   go_ret
   exact ⟨by simp [hn2], HB3.out⟩
  ·have hp : sp = eqB l1 l2 := by rw [← hSP]; unfold sameP; rw [q1, q2]
   clear hSP
   subst hp
   clear HX1 q1 q2
   obtain ⟨_, _, f1, g1, k1⟩ := Kd.R_reads HR13.out
   injection f1 with f1 _ f1'
   subst f1 f1'
   obtain ⟨_, _, f2, g2, k2⟩ := Kd.R_reads HR2.out
   injection f2 with f2 _ f2'
   subst f2 f2'
   have HEQ := Lib.hid (bytes_Equal.calls X1 e1 l1 X2 e2 l2 (eqB l1 l2) w3 k1 g1 k2 g2 rfl)
   clear g1 k1 g2 k2
   go_wp2_with (fail)
   refine HEQ.out.mono ?_
   rintro e w4 ⟨rfl, hd⟩
   have hBf := HB3.out.trans (hd.below.mono HB3.out.size)
   clear hd
   go_wp2
   go_ret
   exact ⟨rfl, hBf⟩

set_option maxHeartbeats 4000000 in
set_option maxRecDepth 100000 in
theorem clone_walk (A : Option Addr) (c : Nat) (l : List Int) (w : World) (hr : ReadsInt w .u8 A l.length l) (hc : l.length ≤ c) (hl : l.length ≤ 1000000) :
 Calls Tryd.prog 36 #[.slice A l.length c] w fun e w' => ∃ A' c', e = .returned (.slice A' l.length c') ∧ (Kd.int .u8).R 5 w' w.heap.size (fun _ => True) (.slice A' l.length c') l ∧ Below w.heap.size w w' := by
 cases A with
 | none =>
  have h0 : l = [] := by
   have := hr.2.2
   cases l with
   | nil => rfl
   | cons x l => obtain ⟨ad, e, _⟩ := this (by simp); cases e
  subst h0
  clear hr
  have hq : ∀ (c : Nat) (w : World), (binOp .eql 22 (.slice none 0 c) (.slice none 0 0)).run Tryd.prog w = .ok (.bool true) w := fun _ _ => rfl
  go_enter Tryd.func36, Tryd.ntmps36
  go_wp2
  go_ret
  exact ⟨none, 0, rfl, Kd.R_nil _ _ _ _ _, Below.refl _ _⟩
 | some ad =>
  have hq : ∀ (n c : Nat) (w : World), (binOp .eql 22 (.slice (some ad) n c) (.slice none 0 0)).run Tryd.prog w = .ok (.bool false) w := fun _ _ _ => rfl
  have HAP := Lib.hid (fun (ops : Array Oper) (o : Oper) (a : Act) (Q : Exit → Act → World → Prop) (rest : List Oper) (s x : Operand) hgd ho hs hx h =>
   add_in (ops := ops) (o := o) (a := a) (Q := Q) (rest := rest) (w.alloc (.cells #[] 5)) w.heap.size (some ⟨w.heap.size, 0, none⟩) 0 [] (some ad) c l l.length s x hgd ho hs hx
    (own0 w w.heap.size (fun k => w.heap.size ≤ k) (Nat.le_refl _) (Nat.le_refl _)) (ReadsInt_below hr ((Below.refl _ _).alloc (Nat.le_refl _) _)) rfl (by simp) (by simp; omega) h)
  clear hr
  go_enter Tryd.func36, Tryd.ntmps36
  go_wp2_with ((with_reducible refine at_dst 7 ?_); go_must (refine HAP.out _ _ _ _ _ (.tmp 5) (.tmp 6) rfl rfl rfl rfl ?_); rintro w1 A1 c1 ho1 hb1 hg1; rw [List.nil_append] at ho1; have HO1 := Lib.hid ho1; have HB1 := Lib.hid hb1; clear ho1 hb1 hg1)
  go_ret
  exact ⟨A1, c1, by simp, Kd.R_mono HO1.out (fun _ _ => trivial), ((Below.refl _ _).alloc (Nat.le_refl _) _).trans HB1.out⟩

end Go.Proofs.YtmbgjhkemlliaaaDoor.Tlv
end

section
set_option linter.unusedVariables false
set_option linter.unusedSimpArgs false
namespace Go.Proofs.YtmbgjhkemlliaaaDoor.Tlv
open Go.RowKit Go.Proofs.YtmbgjhkemlliaaaDoorW.PrintWords Go.Proofs.YtmbgjhkemlliaaaDoorW.PrintLast Go.Proofs.YtmbgjhkemlliaaaDoorW.PrintMore Go.Proofs.YtmbgjhkemlliaaaDoor.PT

/-- Bytes without noughts ahead. -/
def stripZ : List Int → List Int
 | [] => []
 | x :: l => if x = 0 then stripZ l else x :: l
theorem stripZ_len : ∀ l : List Int, (stripZ l).length ≤ l.length
 | [] => Nat.le_refl _
 | x :: l => by
  rw [stripZ]
  split
  ·have := stripZ_len l; simp; omega
  ·exact Nat.le_refl _
theorem stripZ_mem : ∀ (l : List Int) (v : Int), v ∈ stripZ l → v ∈ l
 | [], v, h => h
 | x :: l, v, h => by
  rw [stripZ] at h
  split at h
  ·exact List.mem_cons_of_mem _ (stripZ_mem l v h)
  ·exact h
theorem stripZ_nz {l : List Int} {x : Int} (h : x ≠ 0) : stripZ (x :: l) = x :: l := by rw [stripZ, if_neg h]
theorem stripZ_twice : ∀ l : List Int, stripZ (stripZ l) = stripZ l
 | [] => rfl
 | x :: l => by
  by_cases h : x = 0
  ·rw [stripZ, if_pos h, stripZ_twice l]
  ·rw [stripZ_nz h, stripZ_nz h]
theorem stripZ_head {l m : List Int} {x : Int} (h : stripZ l = x :: m) : x ≠ 0 := by
 induction l with
 | nil => cases h
 | cons y l ih =>
  by_cases h0 : y = 0
  ·rw [stripZ, if_pos h0] at h; exact ih h
  ·rw [stripZ_nz h0] at h
   injection h with h _
   omega
def TlbPost (S : List Int) (w : World) (e : Ending) (w' : World) : Prop := ∃ A' c', e = .returned (.slice A' (List.length S) c') ∧ ReadsInt w .u8 A' S.length S ∧ S.length ≤ c' ∧ w = w'
set_option maxHeartbeats 1000000 in
set_option maxRecDepth 100000 in
theorem tlb_walk (A : Option Addr) (c : Nat) (l : List Int) (w : World) (hr : ReadsInt w .u8 A l.length l) (hc : l.length ≤ c) (hl : l.length ≤ 1000000000) :
 Calls Tryd.prog 60 #[.slice A l.length c, .int .u8 0] w (TlbPost (stripZ l) w) := by
 obtain ⟨i0, hi, hz0, hz1, hz2⟩ := info_parts infoByte
 have HI := Lib.hid (And.intro hi hz1)
 have HR := Lib.hid hr
 generalize hS : stripZ l = S
 have HS := Lib.hid hS
 clear hi hz0 hz1 hz2 hr hS
 go_enter Tryd.func60, Tryd.ntmps60
 go_wp2
 go_loop [0] (fun t => ∃ A' c' m, t = .slice A' (List.length m) c' ∧ ReadsInt w .u8 A' m.length m ∧ m.length ≤ c' ∧ m.length ≤ 1000000000 ∧ stripZ m = S) (fun t => lenV t)
 case atStart => exact ⟨A, c, l, rfl, HR.out, hc, hl, HS.out⟩
 case round =>
  obtain ⟨A1, c1, m, rfl, h1, h2, h3, h4⟩ := hrel
  cases m with
  | nil =>
   have hs : S = [] := by rw [← h4]; rfl
   clear h4
   have e0 : ([] : List Int).length = 0 := rfl
   rw [e0]
   clear HS
   subst hs
   go_wp2
   go_ret
   exact ⟨none, 0, rfl, reads_of_C (C_nil _ _ _), Nat.le_refl _, rfl⟩
  | cons x m =>
   obtain ⟨ad, e, hcell⟩ := h1.2.2 (by simp)
   subst e
   have hx0 := hcell 0 (by simp)
   replace hx0 : w.cell? ad = some (.int .u8 x) := by simpa [Addr.add] using hx0
   have el : (x :: m).length = m.length + 1 := rfl
   obtain ⟨A2, hcut, hcr, hcc⟩ := print_cut_int (P := Tryd.prog) (k := .u8) 22 5 Tryd.underlying22 HI.out.1 HI.out.2 (some ad) c1 (x :: m) 1 (by omega) (by simp; omega) h2
   have HM := Lib.hid (And.intro h1 (And.intro h2 (And.intro h3 (And.intro h4 (And.intro hcr hcc)))))
   have hd1 := eq_false (show ¬ (((m.length + 1 : Nat) : Int) = 0) by omega)
   have hd2 : (((m.length + 1 : Nat) : Int) == 0) = false := beq_eq_false_iff_ne.2 (by omega)
   have hd3 := eq_true (show (0 : Int) < ((m.length + 1 : Nat) : Int) by omega)
   have hd4 : decide ((0 : Int) < ((m.length + 1 : Nat) : Int)) = true := decide_eq_true (by omega)
   rw [el] at hcut ⊢
   clear h1 h2 h3 h4 hcr hcc hcell HS el
   by_cases h0 : x = 0
   ·subst h0
    go_wp2
    go_round
    case rel =>
     obtain ⟨g1, g2, g3, g4, g5, g6⟩ := HM.out
     have g5 := g5 w g1
     have ed : (((0 : Int) :: m).drop (Int.toNat 1)) = m := rfl
     rw [ed] at g5 g6
     exact ⟨A2, _, m, rfl, g5, by first | exact g6 | (simpa using g6), by simp at g3; omega, by rw [← g4, stripZ, if_pos rfl]⟩
    case measure => simp [lenV]
   ·have h0a := eq_false h0
    have h0b : (x == 0) = false := beq_eq_false_iff_ne.2 h0
    have h0c : decide (x = 0) = false := decide_eq_false h0
    have hS2 : S = x :: m := by rw [← HM.out.2.2.2.1, stripZ_nz h0]
    subst hS2
    have el : (x :: m).length = m.length + 1 := rfl
    clear h0
    go_wp2
    go_ret
    exact ⟨some ad, c1, rfl, HM.out.1, HM.out.2.1, rfl⟩

set_option maxHeartbeats 1000000 in
set_option maxRecDepth 100000 in
theorem trim_walk (A : Option Addr) (c : Nat) (l : List Int) (w : World) (hr : (Kd.int .u8).C w A l.length l) (hc : l.length ≤ c) (hl : l.length ≤ 1000000000) :
 Calls Tryd.prog 42 #[.slice A l.length c, .string ⟨#[0]⟩] w fun e w' => ∃ A' c', e = .returned (.slice A' (stripZ l).length c') ∧ (Kd.int .u8).C w' A' (stripZ l).length (stripZ l) ∧ (stripZ l).length ≤ c' ∧ Below w.heap.size w w' := by
 by_cases h0 : l = []
 ·subst h0
  clear hr hc
  have e0 : ([] : List Int).length = 0 := rfl
  have es : stripZ [] = [] := rfl
  rw [es, e0]
  go_enter Tryd.func42, Tryd.ntmps42
  go_wp2
  go_ret
  exact ⟨none, 0, rfl, C_nil _ _ _, Nat.le_refl _, Below.refl _ _⟩
 ·have hp : 0 < l.length := List.length_pos_iff.2 h0
  have h1 := eq_false (show ¬ ((l.length : Int) = 0) by omega)
  have h2 : ((l.length : Int) == 0) = false := beq_eq_false_iff_ne.2 (by omega)
  have h3 := eq_false (show ¬ (l.length = 0) by omega)
  have h4 := eq_false h0
  have HT := Lib.hid (tlb_walk A c l w (reads_of_C hr) hc hl)
  clear hr hp h0
  go_enter Tryd.func42, Tryd.ntmps42
  go_wp2_with (fail)
  refine HT.out.mono ?_
  rintro e w2 ⟨A', c', rfl, h1, h2, rfl⟩
  have HV := Lib.hid (And.intro h1 h2)
  clear h1 h2 HT
  go_wp2
  go_ret
  exact ⟨A', c', rfl, C_of_reads HV.out.1 rfl, HV.out.2, Below.refl _ _⟩

end Go.Proofs.YtmbgjhkemlliaaaDoor.Tlv
end

section
set_option linter.unusedVariables false
set_option linter.unusedSimpArgs false
namespace Go.Proofs.YtmbgjhkemlliaaaDoor.Tlv
open Go.RowKit Go.Proofs.YtmbgjhkemlliaaaDoorW.PrintWords Go.Proofs.YtmbgjhkemlliaaaDoorW.PrintLast Go.Proofs.YtmbgjhkemlliaaaDoorW.PrintMore Go.Proofs.YtmbgjhkemlliaaaDoor.PT

/-- Whole numbers that have been laid in a block of one's own. -/
theorem R_ints {k : IntKind} {w : World} {g t base : Nat} {l : List Int} {ok : Nat → Prop} (h : w.heap[g]? = some (.cells (l.map (Value.int k)).toArray t (0, 0))) (hb : base ≤ g) (hk : ok g) (hl : l.length ≤ 1000000) :
 (Kd.int k).R t w base ok (.slice (some ⟨g, 0, none⟩) l.length l.length) l :=
 ⟨fun k' h' => by
  have : g = k' := by simpa [Value.ownBlock] using h'
  subst this
  exact hk, l.map (Value.int k), ⟨by show (l.map (Value.int k)).length = l.length * 1; simp, .inr ⟨g, l.length, (l.map (Value.int k)).toArray, rfl, hb, h, Nat.le_refl _, by simp only [maxLen]; omega, by show (l.map (Value.int k)).toArray.size = l.length * 1; simp, by
   show (l.map (Value.int k)).take (l.length * 1) = _
   exact List.take_of_length_le (by simp)⟩⟩, Kd.reps_scalar l⟩
/-- A great number's bytes in an element. -/
def bigB (s : List Int) : List Int := match s with
 | [] => [0]
 | x :: l => if 128 ≤ x then 0 :: x :: l else x :: l
def bigT (l : List Int) : T := ⟨2, bigB (stripZ l), []⟩
theorem bigB_len (s : List Int) : (bigB s).length ≤ s.length + 1 := by
 cases s with
 | nil => simp [bigB]
 | cons x l => unfold bigB; simp only; split <;> simp

/-- An element of one body of one's own, put into its place. -/
theorem node_out {w w3 : World} {n0 n1 n2 : Value} {base : Nat} {ok : Nat → Prop} {A : Option Addr} {c : Nat} {l : List Int} (n : Nat) (hn : l.length = n) (tag : Int) (hb : w3.heap[w.heap.size]? = some (.cells #[n0, n1, n2] 28 (0, 0))) (hB : Below w.heap.size w w3) (hbase : w.heap.size < base) (hr : (Kd.int .u8).R 5 w3 base ok (.slice A l.length c) l) (W : World) (hW : W = ((w3.setCell ⟨w.heap.size, 0, none⟩ (.int .i64 tag)).setCell ⟨w.heap.size, 1, none⟩ (.slice A n c)).setCell ⟨w.heap.size, 2, none⟩ (.slice none 0 0)) :
 W.heap[w.heap.size]? = some (.cells #[.int .i64 tag, .slice A n c, .slice none 0 0] 28 (0, 0)) ∧ NodeR W w.heap.size W.heap.size ⟨tag, l, []⟩ (.slice A n c) (.slice none 0 0) ∧ Below w.heap.size w W := by
 subst hW
 subst hn
 refine ⟨heap_setCell_same _ _ 2 _ _ _ (heap_setCell_same _ _ 1 _ _ _ (heap_setCell_same _ _ 0 _ _ _ hb)), ?_, Below.setCell (Below.setCell (Below.setCell hB (p := ⟨w.heap.size, 0, none⟩) (Nat.le_refl _) _) (p := ⟨w.heap.size, 1, none⟩) (Nat.le_refl _) _) (p := ⟨w.heap.size, 2, none⟩) (Nat.le_refl _) _⟩
 have hm := Kd.R_mono (Kd.R_bound hr) (fun k hk => hk.2)
 have hmv : ∀ k, w.heap.size < k → (((w3.setCell ⟨w.heap.size, 0, none⟩ (.int .i64 tag)).setCell ⟨w.heap.size, 1, none⟩ (.slice A l.length c)).setCell ⟨w.heap.size, 2, none⟩ (.slice none 0 0)).heap[k]? = w3.heap[k]? := fun k hk =>
  (heap_setCell_other _ _ _ _ (by show k ≠ w.heap.size; omega)).trans ((heap_setCell_other _ _ _ _ (by show k ≠ w.heap.size; omega)).trans (heap_setCell_other _ _ _ _ (by show k ≠ w.heap.size; omega)))
 refine ⟨Kd.R_lower (Kd.R_mono (Kd.R_move hm (fun k hk => hmv k (by omega))) (fun k hk => ⟨by omega, by simpa using hk.2.1⟩)) (by omega), Kd.R_nil _ _ _ _ _⟩

set_option maxHeartbeats 4000000 in
set_option maxRecDepth 100000 in
theorem big_walk (A : Option Addr) (c : Nat) (l : List Int) (w : World) (hr : (Kd.int .u8).C w A l.length l) (hc : l.length ≤ c) (hv : ∀ x ∈ l, 0 ≤ x ∧ x < 256) (hl : l.length ≤ 500000) :
 Calls Tryd.prog 33 #[.slice A l.length c] w fun e w' => ∃ v1, e = .returned (.agg #[.int .i64 2, v1, .slice none 0 0]) ∧ NodeR w' w.heap.size w'.heap.size (bigT l) v1 (.slice none 0 0) ∧ Below w.heap.size w w' := by
 have hb0 : (w.alloc (.cells #[.int .i64 0, .slice none 0 0, .slice none 0 0] 28)).heap[w.heap.size]? = some (.cells #[.int .i64 0, .slice none 0 0, .slice none 0 0] 28 (0, 0)) := heap_alloc_new w _
 have hB1 : Below w.heap.size w (w.alloc (.cells #[.int .i64 0, .slice none 0 0, .slice none 0 0] 28)) := (Below.refl _ _).alloc (Nat.le_refl _) _
 have HTRIM := Lib.hid (trim_walk A c l _ (Kd.C_below hr hB1) hc (by omega))
 have hsl := stripZ_len l
 have hsv : ∀ x ∈ stripZ l, 0 ≤ x ∧ x < 256 := fun x hx => hv x (stripZ_mem l x hx)
 unfold bigT
 have hs3 : (stripZ l).length ≤ 500000 := by omega
 generalize stripZ l = s at HTRIM hsv hs3 ⊢
 have HB0 := Lib.hid hb0
 have HB1 := Lib.hid hB1
 have HSV := Lib.hid hsv
 clear hb0 hB1 hr hc hv hl hsl hsv
 go_enter Tryd.func33, Tryd.ntmps33
 go_wp2_with (fail)
 refine HTRIM.out.mono ?_
 rintro e w2 ⟨A2, c2, rfl, hr2, hc2, hB2⟩
 have hb2 := (hB2.block _ (heap_lt HB0.out)).trans HB0.out
 have hB := HB1.out.trans (hB2.mono HB1.out.size)
 have HR := Lib.hid hr2
 have HB := Lib.hid hB
 have HB2 := Lib.hid hb2
 have a0 := Lib.cell_of_heap hb2 0
 have a1 := Lib.cell_of_heap hb2 1
 have a2 := Lib.cell_of_heap hb2 2
 have f0 := Lib.frozen_of_heap hb2 0
 have f1 := Lib.frozen_of_heap hb2 1
 have f2 := Lib.frozen_of_heap hb2 2
 have hlt := heap_lt hb2
 clear hr2 hB hb2 hB2 HTRIM HB0 HB1
 cases s with
 | nil =>
  have e0 : ([] : List Int).length = 0 := rfl
  have h0b : (w2.alloc (.cells #[.int .u8 0] 5)).heap[w2.heap.size]? = some (.cells ([0].map (Value.int .u8)).toArray 5 (0, 0)) := heap_alloc_new w2 _
  have hal : Below w2.heap.size w2 (w2.alloc (.cells #[.int .u8 0] 5)) := (Below.refl _ _).alloc (Nat.le_refl _) _
  have HAP := Lib.hid (fun (ops : Array Oper) (o : Oper) (a : Act) (Q : Exit → Act → World → Prop) (rest : List Oper) (s1 x1 : Operand) hgd ho hs hx h =>
   add_in (ops := ops) (o := o) (a := a) (Q := Q) (rest := rest) (w2.alloc (.cells #[.int .u8 0] 5)) w2.heap.size (some ⟨w2.heap.size, 0, none⟩) 1 [0] A2 c2 ([] : List Int) ([] : List Int).length s1 x1 hgd ho hs hx
    (R_ints (l := [0]) h0b (Nat.le_refl _) (Nat.le_refl _) (by simp)) (ReadsInt_below (reads_of_C HR.out) hal) rfl (by simp) (by show 1 + _ ≤ _; omega) h)
  have HOLD : Hid (∀ w3, Below w2.heap.size (w2.alloc (.cells #[.int .u8 0] 5)) w3 → w3.heap[w.heap.size]? = some (.cells #[.int .i64 0, .slice none 0 0, .slice none 0 0] 28 (0, 0)) ∧ Below w.heap.size w w3) := by
   refine Lib.hid (fun w3 h3 => ⟨(h3.block _ hlt).trans ((Below.heap_alloc w2 _ _ hlt).trans HB2.out), ?_⟩)
   exact HB.out.trans ((hal.trans h3).mono HB.out.size)
  clear h0b hal hs3 HSV
  go_wp2_with ((with_reducible refine at_dst 16 ?_); go_must (refine HAP.out _ _ _ _ _ (.tmp 14) (.tmp 15) rfl rfl rfl rfl ?_); rintro w3 A3 c3 ho3 hb3 hg3; have ho3' := Lib.hid ho3; obtain ⟨hq, hBq⟩ := HOLD.out w3 hb3; have HQ := Lib.hid hq; have HBQ := Lib.hid hBq; have q0 := Lib.cell_of_heap hq 0; have q1 := Lib.cell_of_heap hq 1; have q2 := Lib.cell_of_heap hq 2; have g0 := Lib.frozen_of_heap hq 0; have g1 := Lib.frozen_of_heap hq 1; have g2 := Lib.frozen_of_heap hq 2; clear ho3 hb3 hg3 hq hBq HOLD HAP a0 a1 a2 f0 f1 f2)
  obtain ⟨z, hN, hF⟩ := node_out (l := [0]) 1 rfl 2 HQ.out HBQ.out hlt ho3'.out _ rfl
  generalize ((w3.setCell ⟨w.heap.size, 0, none⟩ (.int .i64 2)).setCell ⟨w.heap.size, 1, none⟩ (.slice A3 1 c3)).setCell ⟨w.heap.size, 2, none⟩ (.slice none 0 0) = w5 at z hN hF ⊢
  have z0 := Lib.cell_of_heap z 0
  have z1 := Lib.cell_of_heap z 1
  have z2 := Lib.cell_of_heap z 2
  refine bodyPost_ret (v := .agg #[.int .i64 2, .slice A3 1 c3, .slice none 0 0]) (by simp [results, Tryd.results33, go_sem, z0, z1, z2]) rfl ?_
  exact ⟨_, rfl, hN, hF⟩
 | cons x l =>
  have el : (x :: l).length = l.length + 1 := rfl
  have hx := HSV.out x List.mem_cons_self
  have hd1 := eq_false (show ¬ (((l.length + 1 : Nat) : Int) = 0) by omega)
  have hd2 : (((l.length + 1 : Nat) : Int) == 0) = false := beq_eq_false_iff_ne.2 (by omega)
  by_cases h128 : 128 ≤ x
  ·have hg1 := eq_true h128
   have hg2 : decide (128 ≤ x) = true := decide_eq_true h128
   have hbb : bigB (x :: l) = 0 :: x :: l := by unfold bigB; simp only; rw [if_pos h128]
   have HBB := Lib.hid hbb
   obtain ⟨ad, e, hcell⟩ := (reads_of_C HR.out).2.2 (by simp)
   subst e
   have hx0 := hcell 0 (by simp)
   replace hx0 : w2.cell? ad = some (.int .u8 x) := by simpa [Addr.add] using hx0
   rw [el]
   clear hcell hx hbb h128
   have h0b : (w2.alloc (.cells #[.int .u8 0] 5)).heap[w2.heap.size]? = some (.cells ([0].map (Value.int .u8)).toArray 5 (0, 0)) := heap_alloc_new w2 _
   have hal : Below w2.heap.size w2 (w2.alloc (.cells #[.int .u8 0] 5)) := (Below.refl _ _).alloc (Nat.le_refl _) _
   have HAP := Lib.hid (fun (ops : Array Oper) (o : Oper) (a : Act) (Q : Exit → Act → World → Prop) (rest : List Oper) (s1 x1 : Operand) hgd ho hs hx h =>
    add_in (ops := ops) (o := o) (a := a) (Q := Q) (rest := rest) (w2.alloc (.cells #[.int .u8 0] 5)) w2.heap.size (some ⟨w2.heap.size, 0, none⟩) 1 [0] (some ad) c2 (x :: l) (x :: l).length s1 x1 hgd ho hs hx
     (R_ints (l := [0]) h0b (Nat.le_refl _) (Nat.le_refl _) (by simp)) (ReadsInt_below (reads_of_C HR.out) hal) rfl (by simp) (by show 1 + _ ≤ _; omega) h)
   have HOLD : Hid (∀ w3, Below w2.heap.size (w2.alloc (.cells #[.int .u8 0] 5)) w3 → w3.heap[w.heap.size]? = some (.cells #[.int .i64 0, .slice none 0 0, .slice none 0 0] 28 (0, 0)) ∧ Below w.heap.size w w3) := by
    refine Lib.hid (fun w3 h3 => ⟨(h3.block _ hlt).trans ((Below.heap_alloc w2 _ _ hlt).trans HB2.out), ?_⟩)
    exact HB.out.trans ((hal.trans h3).mono HB.out.size)
   clear h0b hal hs3 HSV
   go_wp2_with ((with_reducible refine at_dst 16 ?_); go_must (refine HAP.out _ _ _ _ _ (.tmp 14) (.tmp 15) rfl rfl rfl rfl ?_); rintro w3 A3 c3 ho3 hb3 hg3; have ho3' := Lib.hid ho3; obtain ⟨hq, hBq⟩ := HOLD.out w3 hb3; have HQ := Lib.hid hq; have HBQ := Lib.hid hBq; have q0 := Lib.cell_of_heap hq 0; have q1 := Lib.cell_of_heap hq 1; have q2 := Lib.cell_of_heap hq 2; have g0 := Lib.frozen_of_heap hq 0; have g1 := Lib.frozen_of_heap hq 1; have g2 := Lib.frozen_of_heap hq 2; clear ho3 hb3 hg3 hq hBq HOLD HAP a0 a1 a2 f0 f1 f2)
   obtain ⟨z, hN, hF⟩ := node_out (l := 0 :: x :: l) (l.length + 1 + 1) rfl 2 HQ.out HBQ.out hlt ho3'.out _ rfl
   generalize ((w3.setCell ⟨w.heap.size, 0, none⟩ (.int .i64 2)).setCell ⟨w.heap.size, 1, none⟩ (.slice A3 (l.length + 1 + 1) c3)).setCell ⟨w.heap.size, 2, none⟩ (.slice none 0 0) = w5 at z hN hF ⊢
   have z0 := Lib.cell_of_heap z 0
   have z1 := Lib.cell_of_heap z 1
   have z2 := Lib.cell_of_heap z 2
   refine bodyPost_ret (v := .agg #[.int .i64 2, .slice A3 (l.length + 1 + 1) c3, .slice none 0 0]) (by simp [results, Tryd.results33, go_sem, z0, z1, z2]) rfl ?_
   exact ⟨_, rfl, by rw [HBB.out]; exact hN, hF⟩
  ·have hg1 := eq_false h128
   have hg2 : decide (128 ≤ x) = false := decide_eq_false h128
   have hbb : bigB (x :: l) = x :: l := by unfold bigB; simp only; rw [if_neg h128]
   have HBB := Lib.hid hbb
   obtain ⟨ad, e, hcell⟩ := (reads_of_C HR.out).2.2 (by simp)
   subst e
   have hx0 := hcell 0 (by simp)
   replace hx0 : w2.cell? ad = some (.int .u8 x) := by simpa [Addr.add] using hx0
   rw [el]
   have HCL := Lib.hid (clone_walk (some ad) c2 (x :: l) w2 (reads_of_C HR.out) hc2 (by omega))
   clear hcell hx hbb h128
   go_wp2_with (fail)
   refine HCL.out.mono ?_
   rintro e w3 ⟨A3, c3, rfl, ho3, hB3⟩
   rw [el]
   have hq := (hB3.block _ hlt).trans HB2.out
   have HQ := Lib.hid hq
   have HBQ := Lib.hid (HB.out.trans (hB3.mono HB.out.size))
   have HO := Lib.hid ho3
   have q0 := Lib.cell_of_heap hq 0
   have q1 := Lib.cell_of_heap hq 1
   have q2 := Lib.cell_of_heap hq 2
   have g0 := Lib.frozen_of_heap hq 0
   have g1 := Lib.frozen_of_heap hq 1
   have g2 := Lib.frozen_of_heap hq 2
   clear hq ho3 hB3 HCL a0 a1 a2 f0 f1 f2 hx0
   go_wp2
   obtain ⟨z, hN, hF⟩ := node_out (l := x :: l) (l.length + 1) rfl 2 HQ.out HBQ.out hlt HO.out _ rfl
   generalize ((w3.setCell ⟨w.heap.size, 0, none⟩ (.int .i64 2)).setCell ⟨w.heap.size, 1, none⟩ (.slice A3 (l.length + 1) c3)).setCell ⟨w.heap.size, 2, none⟩ (.slice none 0 0) = w5 at z hN hF ⊢
   have z0 := Lib.cell_of_heap z 0
   have z1 := Lib.cell_of_heap z 1
   have z2 := Lib.cell_of_heap z 2
   refine bodyPost_ret (v := .agg #[.int .i64 2, .slice A3 (l.length + 1) c3, .slice none 0 0]) (by simp [results, Tryd.results33, go_sem, z0, z1, z2]) rfl ?_
   exact ⟨_, rfl, by rw [HBB.out]; exact hN, hF⟩

end Go.Proofs.YtmbgjhkemlliaaaDoor.Tlv
end

section
namespace Go.Proofs.YtmbgjhkemlliaaaDoor.PT
open Go.RowKit Go.Proofs.YtmbgjhkemlliaaaDoorW.PrintWords Go.Proofs.YtmbgjhkemlliaaaDoorW.PrintLast Go.Proofs.YtmbgjhkemlliaaaDoorW.PrintMore
attribute [local go_sem] max2_int min2_int max_two min_two max_three min_three max_four min_four   -- for this text's walks alone
set_option linter.unusedVariables false
set_option linter.unusedSimpArgs false

end Go.Proofs.YtmbgjhkemlliaaaDoor.PT
end

section
namespace Go.Proofs.YtmbgjhkemlliaaaDoor.PT
open Go.RowKit Go.Proofs.YtmbgjhkemlliaaaDoorW.PrintWords Go.Proofs.YtmbgjhkemlliaaaDoorW.PrintLast Go.Proofs.YtmbgjhkemlliaaaDoorW.PrintMore
attribute [local go_sem] max2_int min2_int max_two min_two max_three min_three max_four min_four   -- for this text's walks alone
set_option linter.unusedVariables false
set_option linter.unusedSimpArgs false

def scalar_Big.f (l0 : List Int) : Option (Int × List Int × List S28) := if l0.length ≤ 500000 ∧ (∀ x ∈ l0, 0 ≤ x ∧ x < 256) then some (2, Tlv.bigB (Tlv.stripZ l0), []) else none
theorem scalar_Big.calls (A0 : Option Addr) (c0 : Nat) (l0 : List Int) (r1 : Int) (r2 : List Int) (r3 : List S28) (w : World) (hr0 : Kd.C (Kd.int .u8) w A0 l0.length l0) (hc0 : l0.length ≤ c0) (h : scalar_Big.f l0 = some (r1, r2, r3)) :
 Calls Tryd.prog 33 #[.slice A0 l0.length c0] w fun e w' => ∃ v1_ v2_ : Value, e = .returned (.agg #[.int .i64 r1, v1_, v2_]) ∧ Kd.R (Kd.int .u8) 5 w' w.heap.size (fun _ => True) v1_ r2 ∧ Kd.R k28 28 w' w.heap.size (fun k_ => some k_ ≠ (v1_ : Value).ownBlock) v2_ r3 ∧ Below w.heap.size w w' := by
 unfold scalar_Big.f at h
 by_cases c : l0.length ≤ 500000 ∧ (∀ x ∈ l0, 0 ≤ x ∧ x < 256)
 ·rw [if_pos c] at h
  injection h with h; injection h with h1 h; injection h with h2 h3
  subst h1 h2 h3
  refine (Tlv.big_walk A0 c0 l0 w hr0 hc0 c.2 c.1).mono ?_
  rintro e w' ⟨v1, rfl, hn, hB⟩
  exact ⟨v1, _, rfl, Kd.R_mono hn.b (fun _ _ => trivial), Kd.R_nil _ _ _ _ _, hB⟩
 ·rw [if_neg c] at h; cases h

end Go.Proofs.YtmbgjhkemlliaaaDoor.PT
end

section
namespace Go.Proofs.YtmbgjhkemlliaaaDoor.PT
open Go.RowKit Go.Proofs.YtmbgjhkemlliaaaDoorW.PrintWords Go.Proofs.YtmbgjhkemlliaaaDoorW.PrintLast Go.Proofs.YtmbgjhkemlliaaaDoorW.PrintMore
attribute [local go_sem] max2_int min2_int max_two min_two max_three min_three max_four min_four   -- for this text's walks alone
set_option linter.unusedVariables false
set_option linter.unusedSimpArgs false

mutual
def octet_Bytes.j0 : Nat → Int → Int → Bool → Option (List Int × Bool)
 | 0, _, _, _ => none
 | k + 1, x0, x1, x24 => if x24 = true then (some (([] : List Int), false)) else (if 0 ≤ x1 then (if (x1 : Int).toNat ≤ 281474976710656 then (octet_Bytes.l0 k x0 x1 (List.replicate (x1 : Int).toNat 0) (mn x1 8) 0) else (none)) else (none))
def octet_Bytes.l0 : Nat → Int → Int → List Int → Int → Int → Option (List Int × Bool)
 | 0, _, _, _, _, _ => none
 | k + 1, x0, x1, x6, x28, x29 => if x29 < x28 then (if 0 ≤ (wrap64 (8 * x29)) then (if 0 ≤ (wrap64 ((wrap64 (x1 - 1)) - x29)) then (if (wrap64 ((wrap64 (x1 - 1)) - x29)) < (x6.length : Int) then (octet_Bytes.l0 k x0 x1 (x6.set ((wrap64 ((wrap64 (x1 - 1)) - x29)) : Int).toNat ((shr .u64 x0 (wrap64 (8 * x29))) % 256)) x28 (wrap64 (x29 + 1))) else (none)) else (none)) else (none)) else (some (x6, true))
end
def octet_Bytes.f (k : Nat) (a0 : Int) (a1 : Int) : Option (List Int × Bool) := if a1 < 0 then (octet_Bytes.j0 k a0 a1 true) else (if a1 > 64 then (octet_Bytes.j0 k a0 a1 true) else (if a1 < 8 then (if 0 ≤ (wrap64 (8 * a1)) then (octet_Bytes.j0 k a0 a1 ((shr .u64 a0 (wrap64 (8 * a1))) != 0)) else (none)) else (octet_Bytes.j0 k a0 a1 false)))
theorem octet_Bytes.mono_l : ∀ k, (∀ y0 y1 y2, LeO (octet_Bytes.j0 k y0 y1 y2) (octet_Bytes.j0 (k + 1) y0 y1 y2)) ∧ (∀ y0 y1 y2 y3 y4, LeO (octet_Bytes.l0 k y0 y1 y2 y3 y4) (octet_Bytes.l0 (k + 1) y0 y1 y2 y3 y4))
 | 0 => ⟨fun _ _ _ r h => by simp [octet_Bytes.j0] at h, fun _ _ _ _ _ r h => by simp [octet_Bytes.l0] at h⟩
 | k + 1 => by
  obtain ⟨ih0, ih1⟩ := octet_Bytes.mono_l k
  refine ⟨?_, ?_⟩
  ·intro y0 y1 y2
   unfold octet_Bytes.j0
   repeat' first
   | (with_reducible exact ih0 _ _ _)
   | (with_reducible exact ih1 _ _ _ _ _)
   | (with_reducible exact LeO.refl _)
   | (with_reducible exact LeO.none _)
   | (with_reducible refine LeO.ite ?_ ?_)
   | (with_reducible refine LeO.bind ?_ (fun _ => ?_))
   | exact ih0 _ _ _
   | exact ih1 _ _ _ _ _
   | exact LeO.none _
   | refine LeO.ite ?_ ?_
   | refine LeO.bind ?_ (fun _ => ?_)
  ·intro y0 y1 y2 y3 y4
   unfold octet_Bytes.l0
   repeat' first
   | (with_reducible exact ih0 _ _ _)
   | (with_reducible exact ih1 _ _ _ _ _)
   | (with_reducible exact LeO.refl _)
   | (with_reducible exact LeO.none _)
   | (with_reducible refine LeO.ite ?_ ?_)
   | (with_reducible refine LeO.bind ?_ (fun _ => ?_))
   | exact ih0 _ _ _
   | exact ih1 _ _ _ _ _
   | exact LeO.none _
   | refine LeO.ite ?_ ?_
   | refine LeO.bind ?_ (fun _ => ?_)
theorem octet_Bytes.mono : ∀ a0 a1 k, LeO (octet_Bytes.f k a0 a1) (octet_Bytes.f (k + 1) a0 a1) := by
 intro a0 a1 k
 obtain ⟨ih0, ih1⟩ := octet_Bytes.mono_l k
 unfold octet_Bytes.f
 repeat' first
  | (with_reducible exact ih0 _ _ _)
  | (with_reducible exact ih1 _ _ _ _ _)
  | (with_reducible exact LeO.refl _)
  | (with_reducible exact LeO.none _)
  | (with_reducible refine LeO.ite ?_ ?_)
  | (with_reducible refine LeO.bind ?_ (fun _ => ?_))
  | exact ih0 _ _ _
  | exact ih1 _ _ _ _ _
  | exact LeO.none _
  | refine LeO.ite ?_ ?_
  | refine LeO.bind ?_ (fun _ => ?_)
set_option maxHeartbeats 8000000 in
set_option maxRecDepth 100000 in
theorem octet_Bytes.calls (k : Nat) (a0 : Int) (a1 : Int) (r1 : List Int) (r2 : Bool) (w : World) (h : octet_Bytes.f k a0 a1 = some (r1, r2)) :
 Calls Tryd.prog 69 #[.int .u64 a0, .int .i64 a1] w fun e w' => ∃ v0_ : Value, e = .returned (.tuple #[v0_, .bool r2]) ∧ Kd.R (Kd.int .u8) 5 w' w.heap.size (fun _ => True) v0_ r1 ∧ Below w.heap.size w w' := by
 have HB := Aside0.mk (Below.refl w.heap.size w)
 have H : (if a1 < 0 then (octet_Bytes.j0 k a0 a1 true) else (if a1 > 64 then (octet_Bytes.j0 k a0 a1 true) else (if a1 < 8 then (if 0 ≤ (wrap64 (8 * a1)) then (octet_Bytes.j0 k a0 a1 ((shr .u64 a0 (wrap64 (8 * a1))) != 0)) else (none)) else (octet_Bytes.j0 k a0 a1 false)))) = some (r1, r2) := h
 clear h
 have HC3 := Aside0.mk H
 clear H
 go_enter Tryd.func69, Tryd.ntmps69
 go_upto_region 1 with (fail)
 go_cut [24] (fun v24 wc => ∃ (kq : Nat) (x24_2 : Bool), v24 = .bool x24_2 ∧ Aside0 (octet_Bytes.j0 kq a0 a1 x24_2 = some (r1, r2)) ∧ Aside0 (kq ≤ k) ∧ Aside0 (Below w.heap.size w wc))
 case first =>
  have H := HC3.out
  clear HC3
  by_cases c4 : a1 < 0
  ·rw [if_pos c4] at H
   have c4b0 : decide (a1 < 0) = true := decide_eq_true c4
   clear c4
   (first | rw [c4b0] | (simp only [i64_w, i32_w]; rw [c4b0]) | skip)
   have H' := Aside0.mk H
   clear H
   go_wp2
   go_meet
   case rel => exact ⟨_, (true), (by first | rfl | (simp; done) | (simp [*]; done)), H', ⟨by first | omega | exact Nat.le_refl _⟩, ⟨by repeat (first | (with_reducible first | exact HB.out | apply below_alloc | apply pw_below_drewN | apply below_drew1) | exact HB.out)⟩⟩
  ·rw [if_neg c4] at H
   have c4b0 : decide (a1 < 0) = false := decide_eq_false c4
   clear c4
   (first | rw [c4b0] | (simp only [i64_w, i32_w]; rw [c4b0]) | skip)
   by_cases c5 : a1 > 64
   ·rw [if_pos c5] at H
    have c5b0 : decide (64 < a1) = true := decide_eq_true c5
    clear c5
    have H' := Aside0.mk H
    clear H
    go_wp2
    go_meet
    case rel => exact ⟨_, (true), (by first | rfl | (simp; done) | (simp [*]; done)), H', ⟨by first | omega | exact Nat.le_refl _⟩, ⟨by repeat (first | (with_reducible first | exact HB.out | apply below_alloc | apply pw_below_drewN | apply below_drew1) | exact HB.out)⟩⟩
   ·rw [if_neg c5] at H
    have c5b0 : decide (64 < a1) = false := decide_eq_false c5
    clear c5
    by_cases c6 : a1 < 8
    ·rw [if_pos c6] at H
     have c6b0 : decide (a1 < 8) = true := decide_eq_true c6
     clear c6
     obtain ⟨ji7, hji7⟩ : ∃ j_ : Int, (wrap64 (8 * a1)) = j_ := ⟨_, rfl⟩
     replace H : (if 0 ≤ (ji7) then (octet_Bytes.j0 k a0 a1 ((shr .u64 a0 (ji7)) != 0)) else (none)) = some (r1, r2) := by first | (rw [hji7] at H; exact H) | (simp only [hji7] at H ⊢; exact H)
     have hji7w : (IntKind.i64.wrap (8 * a1)) = ji7 := (i64_w _).trans hji7
     by_cases c8 : 0 ≤ (ji7)
     ·rw [if_pos c8] at H
      have c8b0 := eq_true c8
      have c8b1 : decide (0 ≤ (ji7)) = true := decide_eq_true c8
      clear c8
      obtain ⟨ji9, hji9⟩ : ∃ j_ : Int, (shr .u64 a0 (ji7)) = j_ := ⟨_, rfl⟩
      replace H : (octet_Bytes.j0 k a0 a1 ((ji9) != 0)) = some (r1, r2) := by first | (rw [hji9] at H; exact H) | (simp only [hji9] at H ⊢; exact H)
      have hji9_ : (a0 / 2 ^ min (ji7).toNat 64) = ji9 := hji9
      have hji9z : (ji7) ≤ 64 → (a0 / 2 ^ (ji7).toNat) = ji9 := shr_small hji9
      have H' := Aside0.mk H
      clear H
      go_wp2
      go_meet
      case rel => exact ⟨_, (((ji9) != 0)), (by first | rfl | (simp; done) | (simp only [← hji9] <;> (first | rfl | simp)) | (simp [*]; done)), H', ⟨by first | omega | exact Nat.le_refl _⟩, ⟨by repeat (first | (with_reducible first | exact HB.out | apply below_alloc | apply pw_below_drewN | apply below_drew1) | exact HB.out)⟩⟩
     ·rw [if_neg c8] at H
      exact absurd H (by simp)
    ·rw [if_neg c6] at H
     have c6b0 : decide (a1 < 8) = false := decide_eq_false c6
     clear c6
     have H' := Aside0.mk H
     clear H
     go_wp2
     go_meet
     case rel => exact ⟨_, (false), (by first | rfl | (simp; done) | (simp [*]; done)), H', ⟨by first | omega | exact Nat.le_refl _⟩, ⟨by repeat (first | (with_reducible first | exact HB.out | apply below_alloc | apply pw_below_drewN | apply below_drew1) | exact HB.out)⟩⟩
 case rest =>
  clear HC3
  try clear p2
  try clear c4
  try clear c4b0
  try clear c5
  try clear c5b0
  try clear c6
  try clear c6b0
  try clear p6
  try clear c8
  try clear c8b0
  try clear c8b1
  obtain ⟨kq, x24_2, rfl, HA, HJ2, HB⟩ := hcut
  cases kq with
  | zero => exact absurd HA.out (by simp [octet_Bytes.j0])
  | succ kj2 =>
   have H := HA.out
   clear HA
   simp only [octet_Bytes.j0] at H
   by_cases c10 : x24_2 = true
   ·subst c10
    have H1 : (some (([] : List Int), false)) = some (r1, r2) := by rw [if_pos rfl] at H; exact H
    clear H
    have H := H1
    clear H1
    simp only [Option.some.injEq, Prod.mk.injEq] at H
    obtain ⟨rfl, rfl⟩ := H
    go_wp2
    go_ret2
    exact ⟨_, by first | rfl | (simp [errW_none, errW_some] <;> rfl) | (simp [*, errW_none, errW_some] <;> rfl), by first | exact Kd.R_nil _ _ _ _ _ | exact Kd.N_nil _ _ _ _ _ | exact Kd.V_nil _ _ _ _ _ | exact Kd.Q_nil _ _ _ _ _ | exact Kd.S_nil _ _ _ _ _, by repeat (first | (with_reducible first | exact HB.out | apply below_alloc | apply pw_below_drewN | apply below_drew1) | exact HB.out)⟩
   ·replace c10 := Bool.eq_false_iff.mpr c10
    subst c10
    have H1 : (if 0 ≤ a1 then (if (a1 : Int).toNat ≤ 281474976710656 then (octet_Bytes.l0 kj2 a0 a1 (List.replicate (a1 : Int).toNat 0) (mn a1 8) 0) else (none)) else (none)) = some (r1, r2) := by rw [if_neg (show ¬ (false = true) by decide)] at H; exact H
    clear H
    have H := H1
    clear H1
    by_cases c11 : 0 ≤ a1
    ·rw [if_pos c11] at H
     have c11b0 := eq_true c11
     have c11b1 : decide (0 ≤ a1) = true := decide_eq_true c11
     clear c11
     by_cases c12 : (a1 : Int).toNat ≤ 281474976710656
     ·rw [if_pos c12] at H
      have c12b0 := eq_true c12
      have c12b1 : decide ((a1 : Int).toNat ≤ 281474976710656) = true := decide_eq_true c12
      clear c12
      obtain ⟨y250, hy250⟩ : ∃ y_ : List Int, y_ = (List.replicate (a1 : Int).toNat 0) := ⟨_, rfl⟩
      replace H : (octet_Bytes.l0 kj2 a0 a1 y250 (mn a1 8) 0) = some (r1, r2) := by first | (rw [hy250]; with_reducible exact H) | (have H2_ := (Option.bind_some _ _).symm.trans H; rw [hy250]; with_reducible exact H2_) | (have H2_ := (Option.bind_some _ _).symm.trans H; with_reducible exact H2_) | with_reducible exact H | (rw [hy250]; exact H) | exact H
      have Ny250 := Aside0.mk hy250
      clear hy250
      obtain ⟨ji13, hji13⟩ : ∃ j_ : Int, (mn a1 8) = j_ := ⟨_, rfl⟩
      replace H : (octet_Bytes.l0 kj2 a0 a1 y250 ji13 0) = some (r1, r2) := by first | (rw [hji13] at H; exact H) | (simp only [hji13] at H ⊢; exact H)
      have hji13_ : (if 8 < a1 then 8 else a1) = ji13 := hji13
      have H' := Aside0.mk H
      clear H
      go_wp2_with (first | ((with_reducible refine gate_dst (N := 26) rfl ?_); refine Kd.R_make (Kd.int .u8) _ 5 rfl (N := 26) rfl 22 _ _ rfl a1 rfl rfl Tryd.underlying22 (.int .u8 0) 1 info5 rfl (by decide) (by omega) 0 (ok := fun _ => True) (okp := fun _ => True) rfl (fun _ hk => hk) trivial (of_decide_eq_true (by first | (with_reducible assumption) | assumption)) (Nat.le_trans (Nat.mul_le_mul_right _ (of_decide_eq_true (by first | (with_reducible assumption) | assumption) : a1.toNat ≤ 281474976710656)) (by omega)) (Below.refl _ _) (Nat.le_refl _) ?_; intro v251 w14 ho15 hb hg_ hnew_; clear hg_ hnew_; (first | rw [← Ny250.out] at ho15 | (simp only [Int.reduceToNat] at ho15; rw [← Ny250.out] at ho15)); have n0_ := Aside0.mk (Kd.R_lower ho15 (below_size (by repeat (first | (with_reducible first | exact HB.out | apply below_alloc | apply pw_below_drewN | apply below_drew1) | exact HB.out)))); have n1_ := Aside0.mk (below_step (by repeat (first | (with_reducible first | exact HB.out | apply below_alloc | apply pw_below_drewN | apply below_drew1) | exact HB.out)) hb); clear HB; have HO252 := n0_; have HB := n1_; clear n0_ n1_; clear hb ho15))
      go_loopg [29] kj2 (fun kq v29 w' => ∃ (x6_2 : List Int) (x29_2 : Int), v29 = .int .i64 x29_2 ∧ Aside0 (octet_Bytes.l0 kq a0 a1 x6_2 ji13 x29_2 = some (r1, r2)) ∧ Aside0 (kq ≤ kj2) ∧ Aside0 (Kd.R (Kd.int .u8) 5 w' w.heap.size (fun _ => True) v251 x6_2) ∧ Aside0 (Below w.heap.size w w'))
      case atStart => exact ⟨(y250), (0), (by first | rfl | (simp; done) | (simp [*]; done)), H', ⟨Nat.le_refl _⟩, ⟨by (with_reducible repeat (first | apply Kd.R_alloc | apply Kd.R_drewN | apply Kd.R_drew)); exact HO252.out⟩, ⟨by repeat (first | (with_reducible first | exact HB.out | apply below_alloc | apply pw_below_drewN | apply below_drew1) | exact HB.out)⟩⟩
      case round =>
       clear H'
       try clear c1
       try clear p2
       try clear c4
       try clear c4b0
       try clear c5
       try clear c5b0
       try clear c6
       try clear c6b0
       try clear p6
       try clear c8
       try clear c8b0
       try clear c8b1
       try clear c10
       try clear c11
       try clear c11b0
       try clear c11b1
       try clear c12
       try clear c12b0
       try clear c12b1
       try clear p2
       try clear p6
       obtain ⟨x6_2, x29_2, rfl, HA, HK2, HO_6, HB⟩ := hrel
       cases gk with
       | zero => exact absurd HA.out (by simp [octet_Bytes.l0])
       | succ k2 =>
        have H := HA.out
        clear HA
        simp only [octet_Bytes.l0] at H
        by_cases c16 : x29_2 < ji13
        ·rw [if_pos c16] at H
         have c16b0 : decide (x29_2 < ji13) = true := decide_eq_true c16
         clear c16
         obtain ⟨ji17, hji17⟩ : ∃ j_ : Int, (wrap64 (8 * x29_2)) = j_ := ⟨_, rfl⟩
         replace H : (if 0 ≤ (ji17) then (if 0 ≤ (wrap64 ((wrap64 (a1 - 1)) - x29_2)) then (if (wrap64 ((wrap64 (a1 - 1)) - x29_2)) < (x6_2.length : Int) then (octet_Bytes.l0 k2 a0 a1 (x6_2.set ((wrap64 ((wrap64 (a1 - 1)) - x29_2)) : Int).toNat ((shr .u64 a0 (ji17)) % 256)) ji13 (wrap64 (x29_2 + 1))) else (none)) else (none)) else (none)) = some (r1, r2) := by first | (rw [hji17] at H; exact H) | (simp only [hji17] at H ⊢; exact H)
         have hji17w : (IntKind.i64.wrap (8 * x29_2)) = ji17 := (i64_w _).trans hji17
         by_cases c18 : 0 ≤ (ji17)
         ·rw [if_pos c18] at H
          have c18b0 := eq_true c18
          have c18b1 : decide (0 ≤ (ji17)) = true := decide_eq_true c18
          clear c18
          obtain ⟨ji19, hji19⟩ : ∃ j_ : Int, (shr .u64 a0 (ji17)) = j_ := ⟨_, rfl⟩
          replace H : (if 0 ≤ (wrap64 ((wrap64 (a1 - 1)) - x29_2)) then (if (wrap64 ((wrap64 (a1 - 1)) - x29_2)) < (x6_2.length : Int) then (octet_Bytes.l0 k2 a0 a1 (x6_2.set ((wrap64 ((wrap64 (a1 - 1)) - x29_2)) : Int).toNat ((ji19) % 256)) ji13 (wrap64 (x29_2 + 1))) else (none)) else (none)) = some (r1, r2) := by first | (rw [hji19] at H; exact H) | (simp only [hji19] at H ⊢; exact H)
          have hji19_ : (a0 / 2 ^ min (ji17).toNat 64) = ji19 := hji19
          have hji19z : (ji17) ≤ 64 → (a0 / 2 ^ (ji17).toNat) = ji19 := shr_small hji19
          obtain ⟨ji20, hji20⟩ : ∃ j_ : Int, (wrap64 ((wrap64 (a1 - 1)) - x29_2)) = j_ := ⟨_, rfl⟩
          replace H : (if 0 ≤ (ji20) then (if (ji20) < (x6_2.length : Int) then (octet_Bytes.l0 k2 a0 a1 (x6_2.set ((ji20) : Int).toNat ((ji19) % 256)) ji13 (wrap64 (x29_2 + 1))) else (none)) else (none)) = some (r1, r2) := by first | (rw [hji20] at H; exact H) | (simp only [hji20] at H ⊢; exact H)
          have hji20w : (IntKind.i64.wrap ((wrap64 (a1 - 1)) - x29_2)) = ji20 := (i64_w _).trans hji20
          by_cases c21 : 0 ≤ (ji20)
          ·rw [if_pos c21] at H
           have c21b0 : decide (0 ≤ (ji20)) = true := decide_eq_true c21
           clear c21
           by_cases c22 : (ji20) < (x6_2.length : Int)
           ·rw [if_pos c22] at H
            have c22b0 : decide ((ji20) < (x6_2.length : Int)) = true := decide_eq_true c22
            clear c22
            obtain ⟨y253, hy253⟩ : ∃ y_ : List Int, y_ = (x6_2.set ((ji20) : Int).toNat ((ji19) % 256)) := ⟨_, rfl⟩
            replace H : (octet_Bytes.l0 k2 a0 a1 y253 ji13 (wrap64 (x29_2 + 1))) = some (r1, r2) := by first | (rw [hy253]; with_reducible exact H) | (have H2_ := (Option.bind_some _ _).symm.trans H; rw [hy253]; with_reducible exact H2_) | (have H2_ := (Option.bind_some _ _).symm.trans H; with_reducible exact H2_) | with_reducible exact H | (rw [hy253]; exact H) | exact H
            have Ny253 := Aside0.mk hy253
            clear hy253
            have H' := Aside0.mk H
            clear H
            have p23 : 0 ≤ ((ji20) : Int) := of_decide_eq_true (by first | (with_reducible assumption) | assumption)
            have q23 : ((ji20) : Int) < ((x6_2.length : Int) : Int) := of_decide_eq_true (by first | (with_reducible assumption) | assumption)
            obtain ⟨go23, co23, eo23, gb23, gl23, cl23, HG23⟩ := Kd.R_form HO_6.out (by omega)
            (first | cases eo23 | (injection eo23 with ea_ en_ ec_; (first | subst ea_ | (injection ea_ with ea_; subst ea_)); subst ec_; clear en_))
            have GB23 := Aside0.mk gb23
            have GG23 := Aside0.mk HG23
            clear gb23 gl23 HG23
            obtain ⟨hx23_0, hf23_0⟩ := Kd.R_celln 0 HO_6.out ((ji20) : Int) p23 q23
            replace p23 := eq_true p23
            replace q23 := eq_true q23
            have HP24 := Kd.R_putg HO_6.out ((ji20) : Int) ((ji19) % 256)
            go_wp2_with (first | ((with_reducible refine gate_store (t := 5) (p := 42) rfl ?_); refine store_event (t := 5) (p := 42) (v := ?vo_w25) (w1 := (wr.setCell ⟨go23, ((ji20) : Int).toNat, none⟩ (.int .u8 ((ji19) % 256)))) ?hg ?ho ?hn ?hr ?_; (case ho => rfl); (case hg => rfl); (case hn => rfl); (case hr => first | (go_simp; done) | (go_simp; rfl)); intro w25 hw; have hg : wr.grownBy w25 (some go23) := (by rw [hw]; exact HP24.2); have hp_ : Kd.R (Kd.int .u8) 5 w25 w.heap.size (fun _ => True) (.slice (some ⟨go23, 0, none⟩) x6_2.length co23) y253 := (by rw [hw, Ny253.out]; exact HP24.1); clear HP24; have n0_ := Aside0.mk (hp_); have n1_ := Aside0.mk ((by rw [hw]; exact below_set (HB.out) GB23.out : Below w.heap.size w w25)); clear HO_6; clear HB; have HO_6 := n0_; have HB := n1_; clear n0_ n1_; clear hg hw hp_))
            go_roundg k2
            case measure => have := HJ2.out; have := HK2.out; omega
            case rel => exact ⟨(y253), (wrap64 (x29_2 + 1)), (by first | rfl | (simp; done) | (simp [*]; done)), H', ⟨by have := HJ2.out; have := HK2.out; omega⟩, ⟨by (with_reducible repeat (first | apply Kd.R_alloc | apply Kd.R_drewN | apply Kd.R_drew)); exact HO_6.out⟩, ⟨by repeat (first | (with_reducible first | exact HB.out | apply below_alloc | apply pw_below_drewN | apply below_drew1) | exact HB.out)⟩⟩
           ·rw [if_neg c22] at H
            exact absurd H (by simp)
          ·rw [if_neg c21] at H
           exact absurd H (by simp)
         ·rw [if_neg c18] at H
          exact absurd H (by simp)
        ·rw [if_neg c16] at H
         have c16b0 : decide (x29_2 < ji13) = false := decide_eq_false c16
         clear c16
         simp only [Option.some.injEq, Prod.mk.injEq] at H
         obtain ⟨rfl, rfl⟩ := H
         go_wp2
         go_ret2
         exact ⟨_, by first | rfl | (simp [errW_none, errW_some] <;> rfl) | (simp only [← hji13]; first | rfl | (simp [errW_none, errW_some] <;> rfl)) | (simp [*, errW_none, errW_some] <;> rfl), by (with_reducible repeat (first | apply Kd.R_alloc | apply Kd.R_drewN | apply Kd.R_drew)); exact HO_6.out, by repeat (first | (with_reducible first | exact HB.out | apply below_alloc | apply pw_below_drewN | apply below_drew1) | exact HB.out)⟩
     ·rw [if_neg c12] at H
      exact absurd H (by simp)
    ·rw [if_neg c11] at H
     exact absurd H (by simp)

end Go.Proofs.YtmbgjhkemlliaaaDoor.PT
end

section
namespace Go.Proofs.YtmbgjhkemlliaaaDoor.PT
open Go.RowKit Go.Proofs.YtmbgjhkemlliaaaDoorW.PrintWords Go.Proofs.YtmbgjhkemlliaaaDoorW.PrintLast Go.Proofs.YtmbgjhkemlliaaaDoorW.PrintMore
attribute [local go_sem] max2_int min2_int max_two min_two max_three min_three max_four min_four   -- for this text's walks alone
set_option linter.unusedVariables false
set_option linter.unusedSimpArgs false

def octet_Least.l0 : Nat → Int → Int → Option (List Int)
 | 0, _, _ => none
 | k + 1, x0, x3 => if x3 < 8 then (if 0 ≤ (wrap64 (8 * x3)) then (if (shr .u64 x0 (wrap64 (8 * x3))) = 0 then ((octet_Bytes.f k x0 x3).bind fun bt254 => (some bt254.1)) else (octet_Least.l0 k x0 (wrap64 (x3 + 1)))) else (none)) else ((octet_Bytes.f k x0 x3).bind fun bt258 => (some bt258.1))
def octet_Least.f (k : Nat) (a0 : Int) : Option (List Int) := octet_Least.l0 k a0 1
set_option maxHeartbeats 8000000 in
set_option maxRecDepth 100000 in
theorem octet_Least.calls (k : Nat) (a0 : Int) (r : List Int) (w : World) (h : octet_Least.f k a0 = some r) :
 Calls Tryd.prog 54 #[.int .u64 a0] w fun e w' => ∃ v0_ : Value, e = .returned (v0_) ∧ Kd.R (Kd.int .u8) 5 w' w.heap.size (fun _ => True) v0_ r ∧ Below w.heap.size w w' := by
 have HB := Aside0.mk (Below.refl w.heap.size w)
 have H : (octet_Least.l0 k a0 1) = some r := h
 clear h
 have H' := Aside0.mk H
 clear H
 go_enter Tryd.func54, Tryd.ntmps54
 go_wp2
 go_loopg [3] k (fun kq v3 w' => ∃ (x3_1 : Int), v3 = .int .i64 x3_1 ∧ Aside0 (octet_Least.l0 kq a0 x3_1 = some r) ∧ Aside0 (kq ≤ k) ∧ Aside0 (Below w.heap.size w w'))
 case atStart => exact ⟨(1), (by first | rfl | (simp; done) | (simp [*]; done)), H', ⟨Nat.le_refl _⟩, ⟨by repeat (first | (with_reducible first | exact HB.out | apply below_alloc | apply pw_below_drewN | apply below_drew1) | exact HB.out)⟩⟩
 case round =>
  clear H'
  obtain ⟨x3_1, rfl, HA, HK1, HB⟩ := hrel
  cases gk with
  | zero => exact absurd HA.out (by simp [octet_Least.l0])
  | succ k1 =>
   have H := HA.out
   clear HA
   simp only [octet_Least.l0] at H
   by_cases c2 : x3_1 < 8
   ·rw [if_pos c2] at H
    have c2b0 : decide (x3_1 < 8) = true := decide_eq_true c2
    clear c2
    obtain ⟨ji3, hji3⟩ : ∃ j_ : Int, (wrap64 (8 * x3_1)) = j_ := ⟨_, rfl⟩
    replace H : (if 0 ≤ (ji3) then (if (shr .u64 a0 (ji3)) = 0 then ((octet_Bytes.f k1 a0 x3_1).bind fun bt254 => (some bt254.1)) else (octet_Least.l0 k1 a0 (wrap64 (x3_1 + 1)))) else (none)) = some r := by first | (rw [hji3] at H; exact H) | (simp only [hji3] at H ⊢; exact H)
    have hji3w : (IntKind.i64.wrap (8 * x3_1)) = ji3 := (i64_w _).trans hji3
    by_cases c4 : 0 ≤ (ji3)
    ·rw [if_pos c4] at H
     have c4b0 := eq_true c4
     have c4b1 : decide (0 ≤ (ji3)) = true := decide_eq_true c4
     clear c4
     obtain ⟨ji5, hji5⟩ : ∃ j_ : Int, (shr .u64 a0 (ji3)) = j_ := ⟨_, rfl⟩
     replace H : (if (ji5) = 0 then ((octet_Bytes.f k1 a0 x3_1).bind fun bt254 => (some bt254.1)) else (octet_Least.l0 k1 a0 (wrap64 (x3_1 + 1)))) = some r := by first | (rw [hji5] at H; exact H) | (simp only [hji5] at H ⊢; exact H)
     have hji5_ : (a0 / 2 ^ min (ji3).toNat 64) = ji5 := hji5
     have hji5z : (ji3) ≤ 64 → (a0 / 2 ^ (ji3).toNat) = ji5 := shr_small hji5
     by_cases c6 : (ji5) = 0
     ·rw [if_pos c6] at H
      have c6b0 : ((ji5) == 0) = true := beq_iff_eq.mpr c6
      have c6b1 : ((ji5) != 0) = false := bne_eq_false_iff_eq.mpr c6
      clear c6
      replace H := Option.bind_eq_some_iff.mp H
      obtain ⟨⟨t254, t255⟩, A70, H⟩ := H
      replace H : (some t254) = some r := H
      have A7 := Aside0.mk A70
      clear A70
      obtain rfl := Option.some.inj H
      go_wp2_with (first | ((with_reducible refine gate_callee (f := 69) rfl ?_); refine goesL_ (some 20) rfl rfl Tryd.func69 (by kernel_rfl) rfl #[.int .u64 a0, .int .i64 x3_1] rfl (by (try simp only [List.map_toArray, List.map_cons, List.map_nil]); first | done | rfl | (simp only [List.length_drop, List.length_take]; rfl)) ?_; (with_reducible refine (octet_Bytes.calls k1 a0 x3_1 t254 t255 _ A7.out).mono ?_); rintro e w8 ⟨v256, rfl, ho0, hb⟩; refine ⟨_, rfl, ?_⟩; have n0_ := Aside0.mk (Kd.R_lower ho0 (below_size (by repeat (first | (with_reducible first | exact HB.out | apply below_alloc | apply pw_below_drewN | apply below_drew1) | exact HB.out)))); have n1_ := Aside0.mk (below_step (by repeat (first | (with_reducible first | exact HB.out | apply below_alloc | apply pw_below_drewN | apply below_drew1) | exact HB.out)) hb); clear HB; have HO257 := n0_; have HB := n1_; clear n0_ n1_; (try clear hb); (try clear hb2); (try clear hk); (try clear hi); (try clear ho0)))
      go_ret
      exact ⟨_, by first | rfl | (simp [errW_none, errW_some] <;> rfl) | (simp only [← hji3, ← hji5]; first | rfl | (simp [errW_none, errW_some] <;> rfl)) | (simp [*, errW_none, errW_some] <;> rfl), by (with_reducible repeat (first | apply Kd.R_alloc | apply Kd.R_drewN | apply Kd.R_drew)); exact HO257.out, by repeat (first | (with_reducible first | exact HB.out | apply below_alloc | apply pw_below_drewN | apply below_drew1) | exact HB.out)⟩
     ·rw [if_neg c6] at H
      have c6b0 : ((ji5) == 0) = false := beq_eq_false_iff_ne.mpr c6
      have c6b1 : ((ji5) != 0) = true := bne_iff_ne.mpr c6
      have H' := Aside0.mk H
      clear H
      go_wp2
      go_roundg k1
      case measure => have := HK1.out; omega
      case rel => exact ⟨(wrap64 (x3_1 + 1)), (by first | rfl | (simp; done) | (simp [*]; done)), H', ⟨by have := HK1.out; omega⟩, ⟨by repeat (first | (with_reducible first | exact HB.out | apply below_alloc | apply pw_below_drewN | apply below_drew1) | exact HB.out)⟩⟩
    ·rw [if_neg c4] at H
     exact absurd H (by simp)
   ·rw [if_neg c2] at H
    have c2b0 : decide (x3_1 < 8) = false := decide_eq_false c2
    clear c2
    replace H := Option.bind_eq_some_iff.mp H
    obtain ⟨⟨t258, t259⟩, A90, H⟩ := H
    replace H : (some t258) = some r := H
    have A9 := Aside0.mk A90
    clear A90
    obtain rfl := Option.some.inj H
    go_wp2_with (first | ((with_reducible refine gate_callee (f := 69) rfl ?_); refine goesL_ (some 20) rfl rfl Tryd.func69 (by kernel_rfl) rfl #[.int .u64 a0, .int .i64 x3_1] rfl (by (try simp only [List.map_toArray, List.map_cons, List.map_nil]); first | done | rfl | (simp only [List.length_drop, List.length_take]; rfl)) ?_; (with_reducible refine (octet_Bytes.calls k1 a0 x3_1 t258 t259 _ A9.out).mono ?_); rintro e w10 ⟨v260, rfl, ho0, hb⟩; refine ⟨_, rfl, ?_⟩; have n0_ := Aside0.mk (Kd.R_lower ho0 (below_size (by repeat (first | (with_reducible first | exact HB.out | apply below_alloc | apply pw_below_drewN | apply below_drew1) | exact HB.out)))); have n1_ := Aside0.mk (below_step (by repeat (first | (with_reducible first | exact HB.out | apply below_alloc | apply pw_below_drewN | apply below_drew1) | exact HB.out)) hb); clear HB; have HO261 := n0_; have HB := n1_; clear n0_ n1_; (try clear hb); (try clear hb2); (try clear hk); (try clear hi); (try clear ho0)))
    go_ret
    exact ⟨_, by first | rfl | (simp [errW_none, errW_some] <;> rfl) | (simp [*, errW_none, errW_some] <;> rfl), by (with_reducible repeat (first | apply Kd.R_alloc | apply Kd.R_drewN | apply Kd.R_drew)); exact HO261.out, by repeat (first | (with_reducible first | exact HB.out | apply below_alloc | apply pw_below_drewN | apply below_drew1) | exact HB.out)⟩

end Go.Proofs.YtmbgjhkemlliaaaDoor.PT
end

section
namespace Go.Proofs.YtmbgjhkemlliaaaDoor.PT
open Go.RowKit Go.Proofs.YtmbgjhkemlliaaaDoorW.PrintWords Go.Proofs.YtmbgjhkemlliaaaDoorW.PrintLast Go.Proofs.YtmbgjhkemlliaaaDoorW.PrintMore
attribute [local go_sem] max2_int min2_int max_two min_two max_three min_three max_four min_four   -- for this text's walks alone
set_option linter.unusedVariables false
set_option linter.unusedSimpArgs false

def scalar_Int.f (k : Nat) (a0 : Int) : Option (Int × List Int × (List (S28))) := (octet_Least.f k a0).bind fun t234 => ((scalar_Big.f t234).bind fun bt237 => (some (bt237.1, bt237.2.1, bt237.2.2)))
set_option maxHeartbeats 8000000 in
set_option maxRecDepth 100000 in
theorem scalar_Int.calls (k : Nat) (a0 : Int) (r1 : Int) (r2 : List Int) (r3 : List (S28)) (w : World) (h : scalar_Int.f k a0 = some (r1, r2, r3)) :
 Calls Tryd.prog 34 #[.int .u64 a0] w fun e w' => ∃ v1_ v2_ : Value, e = .returned (.agg #[.int .i64 r1, v1_, v2_]) ∧ Kd.R (Kd.int .u8) 5 w' w.heap.size (fun _ => True) v1_ r2 ∧ Kd.R k28 28 w' w.heap.size (fun k_ => some k_ ≠ (v1_ : Value).ownBlock) v2_ r3 ∧ Below w.heap.size w w' := by
 have hu28 := Tryd.underlying28
 have HB := Aside0.mk (Below.refl w.heap.size w)
 have H : ((octet_Least.f k a0).bind fun t234 => ((scalar_Big.f t234).bind fun bt237 => (some (bt237.1, bt237.2.1, bt237.2.2)))) = some (r1, r2, r3) := h
 clear h
 replace H := Option.bind_eq_some_iff.mp H
 obtain ⟨t234, A20, H⟩ := H
 replace H : ((scalar_Big.f t234).bind fun bt237 => (some (bt237.1, bt237.2.1, bt237.2.2))) = some (r1, r2, r3) := H
 have A2 := Aside0.mk A20
 clear A20
 replace H := Option.bind_eq_some_iff.mp H
 obtain ⟨⟨t237, t238, t241⟩, A30, H⟩ := H
 replace H : (some (t237, t238, t241)) = some (r1, r2, r3) := H
 have A3 := Aside0.mk A30
 clear A30
 simp only [Option.some.injEq, Prod.mk.injEq] at H
 obtain ⟨rfl, rfl, rfl⟩ := H
 go_enter Tryd.func34, Tryd.ntmps34
 go_wp2_with (first | ((with_reducible refine gate_dst (N := 2) rfl ?_); refine box_event ?hg (N := 2) ?hd (cs := #[.int .i64 0, .slice none 0 0, .slice none 0 0]) (t := 28) ?hr ?_; (case hd => rfl); (case hg => rfl); (case hr => first | (go_simp; done) | (go_simp; rfl)); intro gb233 hg w4 hbox hb; have n0_ := Aside0.mk (below_step (by repeat (first | (with_reducible first | exact HB.out | apply below_alloc | apply pw_below_drewN | apply below_drew1) | exact HB.out)) hb); have n1_ := Aside0.mk (hbox); have n2_ := Aside0.mk ((by rw [hg]; exact (below_size (by repeat (first | (with_reducible first | exact HB.out | apply below_alloc | apply pw_below_drewN | apply below_drew1) | exact HB.out))) : w.heap.size ≤ gb233)); have n3_ := Aside0.mk ((by rw [hg]; exact (below_size (by repeat (first | (with_reducible first | exact HB.out | apply below_alloc | apply pw_below_drewN | apply below_drew1) | exact HB.out))) : w.heap.size ≤ gb233)); clear HB; have HB := n0_; have BK233 := n1_; have GW233 := n2_; have GE233 := n3_; clear n0_ n1_ n2_ n3_; clear hb hbox hg) | ((with_reducible refine gate_callee (f := 54) rfl ?_); refine goesL_ (some 4) rfl rfl Tryd.func54 (by kernel_rfl) rfl #[.int .u64 a0] rfl (by (try simp only [List.map_toArray, List.map_cons, List.map_nil]); first | done | rfl | (simp only [List.length_drop, List.length_take]; rfl)) ?_; (with_reducible refine (octet_Least.calls k a0 t234 _ A2.out).mono ?_); rintro e w5 ⟨v235, rfl, ho0, hb⟩; refine ⟨_, rfl, ?_⟩; have n0_ := Aside0.mk (Kd.R_lower ho0 (below_size (by repeat (first | (with_reducible first | exact HB.out | apply below_alloc | apply pw_below_drewN | apply below_drew1 | refine below_set ?_ GE233.out) | exact HB.out)))); have n1_ := Aside0.mk (blk_below (g := gb233) (o := .cells #[.int .i64 0, .slice none 0 0, .slice none 0 0] 28 (0, 0)) (by (with_reducible repeat (first | refine blk_drewN ?_ _ | refine blk_drew ?_ | refine blk_alloc ?_ _)); exact BK233.out) hb); have n2_ := Aside0.mk (below_step (by repeat (first | (with_reducible first | exact HB.out | apply below_alloc | apply pw_below_drewN | apply below_drew1 | refine below_set ?_ GE233.out) | exact HB.out)) hb); clear BK233; clear HB; have HO236 := n0_; have BK233 := n1_; have HB := n2_; clear n0_ n1_ n2_; (try clear hb); (try clear hb2); (try clear hk); (try clear hi); (try clear ho0); obtain ⟨Ao6, co6, eo6⟩ := Kd.R_slice HO236.out; subst eo6) | ((with_reducible refine gate_callee (f := 33) rfl ?_); refine goesL_ (some 5) rfl rfl Tryd.func33 (by kernel_rfl) rfl #[.slice Ao6 t234.length co6] rfl (by (try simp only [List.map_toArray, List.map_cons, List.map_nil]); first | done | rfl | (simp only [List.length_drop, List.length_take]; rfl)) ?_; (with_reducible refine (scalar_Big.calls _ _ t234 t237 t238 t241 _ ?side1 ?side2 A3.out).mono ?_); (case side1 => repeat (first | exact (Kd.R_reads' HO236.out).2.2 | (with_reducible refine Kd.C_alloc ?_ _) | (with_reducible refine Kd.C_drewN ?_ _) | (with_reducible refine Kd.C_drew ?_))); (case side2 => exact (Kd.R_reads' HO236.out).2.1); rintro e w7 ⟨v239, v242, rfl, ho0, ho1, hb⟩; refine ⟨_, rfl, ?_⟩; have n0_ := Aside0.mk (Kd.R_elder' (by (with_reducible repeat (first | apply Kd.R_alloc | apply Kd.R_drewN | apply Kd.R_drew)); exact HO236.out) (Kd.R_base ho0) hb); have n1_ := Aside0.mk (Kd.R_lower (Kd.R_new' ho0 (Kd.R_lt (by (with_reducible repeat (first | apply Kd.R_alloc | apply Kd.R_drewN | apply Kd.R_drew)); exact HO236.out))) (below_size (by repeat (first | (with_reducible first | exact HB.out | apply below_alloc | apply pw_below_drewN | apply below_drew1 | refine below_set ?_ GE233.out) | exact HB.out)))); have n2_ := Aside0.mk (Kd.R_lower (Kd.R_newB (Kd.R_new' ho1 (Kd.R_lt (by (with_reducible repeat (first | apply Kd.R_alloc | apply Kd.R_drewN | apply Kd.R_drew)); exact HO236.out))) (g := gb233) (o := .cells #[.int .i64 0, .slice none 0 0, .slice none 0 0] 28 (0, 0)) (by (with_reducible repeat (first | refine blk_drewN ?_ _ | refine blk_drew ?_ | refine blk_alloc ?_ _)); exact BK233.out)) (below_size (by repeat (first | (with_reducible first | exact HB.out | apply below_alloc | apply pw_below_drewN | apply below_drew1 | refine below_set ?_ GE233.out) | exact HB.out)))); have n3_ := Aside0.mk (blk_below (g := gb233) (o := .cells #[.int .i64 0, .slice none 0 0, .slice none 0 0] 28 (0, 0)) (by (with_reducible repeat (first | refine blk_drewN ?_ _ | refine blk_drew ?_ | refine blk_alloc ?_ _)); exact BK233.out) hb); have n4_ := Aside0.mk (below_step (by repeat (first | (with_reducible first | exact HB.out | apply below_alloc | apply pw_below_drewN | apply below_drew1 | refine below_set ?_ GE233.out) | exact HB.out)) hb); clear HO236; clear BK233; clear HB; have HO236 := n0_; have HO240 := n1_; have HO243 := n2_; have BK233 := n3_; have HB := n4_; clear n0_ n1_ n2_ n3_ n4_; (try clear hb); (try clear hb2); (try clear hk); (try clear hi); (try clear ho0); (try clear ho1); have hcz8_0 : w7.cell? ⟨gb233, 0, none⟩ = some (.int .i64 0) := (blk_cell BK233.out 0).trans rfl; have hcz8_1 : w7.cell? ⟨gb233, 1, none⟩ = some (.slice none 0 0) := (blk_cell BK233.out 1).trans rfl; have hcz8_2 : w7.cell? ⟨gb233, 2, none⟩ = some (.slice none 0 0) := (blk_cell BK233.out 2).trans rfl; have hfz8_0 := blk_frozen BK233.out 0; have hfz8_1 := blk_frozen BK233.out 1; have hfz8_2 := blk_frozen BK233.out 2; obtain ⟨Ao9, co9, eo9⟩ := Kd.R_slice HO240.out; subst eo9; obtain ⟨Ao10, co10, eo10⟩ := Kd.R_slice HO243.out; subst eo10))
 refine bodyPost_ret (results_cell_row rfl _ _ gb233 28 #[.int .i64 t237, .slice Ao9 t238.length co9, .slice Ao10 t241.length co10] (0, 0) _ rfl (by (with_reducible repeat (first | refine blk_drewN ?_ _ | refine blk_drew ?_ | refine blk_alloc ?_ _)); refine blk_put (cs := #[.int .i64 t237, .slice Ao9 t238.length co9, .slice none 0 0]) ?_ 2 _ rfl; (with_reducible repeat (first | refine blk_drewN ?_ _ | refine blk_drew ?_ | refine blk_alloc ?_ _)); refine blk_put (cs := #[.int .i64 t237, .slice none 0 0, .slice none 0 0]) ?_ 1 _ rfl; (with_reducible repeat (first | refine blk_drewN ?_ _ | refine blk_drew ?_ | refine blk_alloc ?_ _)); refine blk_put (cs := #[.int .i64 0, .slice none 0 0, .slice none 0 0]) ?_ 0 _ rfl; (with_reducible repeat (first | refine blk_drewN ?_ _ | refine blk_drew ?_ | refine blk_alloc ?_ _)); exact BK233.out) Tryd.underlying28 rfl (by kernel_rfl)) rfl ?_
 exact ⟨_, _, by first | rfl | (simp [errW_none, errW_some] <;> rfl) | (simp [*, errW_none, errW_some] <;> rfl), by (with_reducible repeat (first | apply Kd.R_alloc | apply Kd.R_drewN | apply Kd.R_drew)); exact Kd.R_mono (Kd.R_far (p := ⟨gb233, 2, none⟩) (Kd.R_far (p := ⟨gb233, 1, none⟩) (Kd.R_far (p := ⟨gb233, 0, none⟩) (Kd.R_types HO240.out BK233.out (by decide)) (fun _ hk => hk.2) (.int .i64 t237)) (fun _ hk => hk.2) (.slice Ao9 t238.length co9)) (fun _ hk => hk.2) (.slice Ao10 t241.length co10)) (fun _ hk => trivial), by (with_reducible repeat (first | apply Kd.R_alloc | apply Kd.R_drewN | apply Kd.R_drew)); exact Kd.R_mono (Kd.R_far (p := ⟨gb233, 2, none⟩) (Kd.R_far (p := ⟨gb233, 1, none⟩) (Kd.R_far (p := ⟨gb233, 0, none⟩) (Kd.R_mono HO243.out (fun k_ hk => (⟨hk, hk.2⟩ : _ ∧ k_ ≠ gb233))) (fun _ hk => hk.2) (.int .i64 t237)) (fun _ hk => hk.2) (.slice Ao9 t238.length co9)) (fun _ hk => hk.2) (.slice Ao10 t241.length co10)) (fun _ hk => hk.1.1.1), by repeat (first | (with_reducible first | exact HB.out | apply below_alloc | apply pw_below_drewN | apply below_drew1 | refine below_set ?_ GE233.out) | exact HB.out)⟩

end Go.Proofs.YtmbgjhkemlliaaaDoor.PT
end

section
set_option linter.unusedVariables false
set_option linter.unusedSimpArgs false
namespace Go.Proofs.YtmbgjhkemlliaaaDoor.Tlv
open Go.RowKit Go.Proofs.YtmbgjhkemlliaaaDoorW.PrintWords Go.Proofs.YtmbgjhkemlliaaaDoorW.PrintLast Go.Proofs.YtmbgjhkemlliaaaDoorW.PrintMore Go.Proofs.YtmbgjhkemlliaaaDoor.PT

def bE : Nat → Int → List Int
 | 0, _ => []
 | m + 1, n => bE m (n / 256) ++ [n % 256]
/-- A number's bytes, as few as there must be. -/
def leastP (n : Int) : List Int := if n / 256 = 0 then bE 1 n else if n / 65536 = 0 then bE 2 n else if n / 16777216 = 0 then bE 3 n else if n / 4294967296 = 0 then bE 4 n else if n / 1099511627776 = 0 then bE 5 n else if n / 281474976710656 = 0 then bE 6 n else if n / 72057594037927936 = 0 then bE 7 n else bE 8 n
theorem shr_n (n : Int) (k : Nat) (hk : k ≤ 64) : shr .u64 n (k : Int) = n / 2 ^ k := by
 unfold shr
 rw [Int.toNat_natCast, Nat.min_eq_left (by show k ≤ 64; exact hk)]
theorem sh0 (n : Int) : shr .u64 n 0 = n := by have := shr_n n 0 (by decide); simpa using this
theorem sh8 (n : Int) : shr .u64 n 8 = n / 256 := shr_n n 8 (by decide)
theorem sh16 (n : Int) : shr .u64 n 16 = n / 65536 := shr_n n 16 (by decide)
theorem sh24 (n : Int) : shr .u64 n 24 = n / 16777216 := shr_n n 24 (by decide)
theorem sh32 (n : Int) : shr .u64 n 32 = n / 4294967296 := shr_n n 32 (by decide)
theorem sh40 (n : Int) : shr .u64 n 40 = n / 1099511627776 := shr_n n 40 (by decide)
theorem sh48 (n : Int) : shr .u64 n 48 = n / 281474976710656 := shr_n n 48 (by decide)
theorem sh56 (n : Int) : shr .u64 n 56 = n / 72057594037927936 := shr_n n 56 (by decide)
theorem by1 (n : Int) : octet_Bytes.f 12 n 1 = if ((shr .u64 n 8) != 0) = true then some ([], false) else some ([shr .u64 n 0 % 256], true) := by kernel_rfl
theorem by2 (n : Int) : octet_Bytes.f 12 n 2 = if ((shr .u64 n 16) != 0) = true then some ([], false) else some ([shr .u64 n 8 % 256, shr .u64 n 0 % 256], true) := by kernel_rfl
theorem by3 (n : Int) : octet_Bytes.f 12 n 3 = if ((shr .u64 n 24) != 0) = true then some ([], false) else some ([shr .u64 n 16 % 256, shr .u64 n 8 % 256, shr .u64 n 0 % 256], true) := by kernel_rfl
theorem by4 (n : Int) : octet_Bytes.f 12 n 4 = if ((shr .u64 n 32) != 0) = true then some ([], false) else some ([shr .u64 n 24 % 256, shr .u64 n 16 % 256, shr .u64 n 8 % 256, shr .u64 n 0 % 256], true) := by kernel_rfl
theorem by5 (n : Int) : octet_Bytes.f 12 n 5 = if ((shr .u64 n 40) != 0) = true then some ([], false) else some ([shr .u64 n 32 % 256, shr .u64 n 24 % 256, shr .u64 n 16 % 256, shr .u64 n 8 % 256, shr .u64 n 0 % 256], true) := by kernel_rfl
theorem by6 (n : Int) : octet_Bytes.f 12 n 6 = if ((shr .u64 n 48) != 0) = true then some ([], false) else some ([shr .u64 n 40 % 256, shr .u64 n 32 % 256, shr .u64 n 24 % 256, shr .u64 n 16 % 256, shr .u64 n 8 % 256, shr .u64 n 0 % 256], true) := by kernel_rfl
theorem by7 (n : Int) : octet_Bytes.f 12 n 7 = if ((shr .u64 n 56) != 0) = true then some ([], false) else some ([shr .u64 n 48 % 256, shr .u64 n 40 % 256, shr .u64 n 32 % 256, shr .u64 n 24 % 256, shr .u64 n 16 % 256, shr .u64 n 8 % 256, shr .u64 n 0 % 256], true) := by kernel_rfl
theorem by8 (n : Int) : octet_Bytes.f 12 n 8 = some ([shr .u64 n 56 % 256, shr .u64 n 48 % 256, shr .u64 n 40 % 256, shr .u64 n 32 % 256, shr .u64 n 24 % 256, shr .u64 n 16 % 256, shr .u64 n 8 % 256, shr .u64 n 0 % 256], true) := by kernel_rfl
theorem byt_up {n m : Int} {r : List Int × Bool} (h : octet_Bytes.f 12 n m = some r) : ∀ j, octet_Bytes.f (12 + j) n m = some r
 | 0 => h
 | j + 1 => octet_Bytes.mono n m (12 + j) r (byt_up h j)
theorem byl {n m : Int} {r : List Int × Bool} (h : octet_Bytes.f 12 n m = some r) (j : Nat) : ((octet_Bytes.f (12 + j) n m).bind fun b => (some b.1)) = some r.1 := by rw [byt_up h j]; rfl
theorem least_f (n : Int) (h0 : 0 ≤ n) : octet_Least.f 20 n = some (leastP n) := by
 unfold leastP
 have e1 : octet_Least.f 20 n = octet_Least.l0 (18 + 1 + 1) n 1 := rfl
 rw [e1, octet_Least.l0, if_pos (by decide), show wrap64 (8 * 1) = 8 by decide +kernel, if_pos (by decide), sh8]
 by_cases c1 : n / 256 = 0
 ·rw [if_pos c1, if_pos c1, byl (j := 7) (by rw [by1, sh8, c1]; rfl)]
  rw [sh0]; rfl
 rw [if_neg c1, if_neg c1, show wrap64 (1 + 1) = 2 by decide +kernel, octet_Least.l0, if_pos (by decide), show wrap64 (8 * 2) = 16 by decide +kernel, if_pos (by decide), sh16]
 by_cases c2 : n / 65536 = 0
 ·rw [if_pos c2, if_pos c2, byl (j := 6) (by rw [by2, sh16, c2]; rfl)]
  rw [sh8, sh0]; rfl
 rw [if_neg c2, if_neg c2, show wrap64 (2 + 1) = 3 by decide +kernel, octet_Least.l0, if_pos (by decide), show wrap64 (8 * 3) = 24 by decide +kernel, if_pos (by decide), sh24]
 by_cases c3 : n / 16777216 = 0
 ·rw [if_pos c3, if_pos c3, byl (j := 5) (by rw [by3, sh24, c3]; rfl)]
  rw [sh16, sh8, sh0]
  simp only [bE, List.nil_append, List.cons_append, Option.some.injEq, List.cons.injEq, and_true]
  omega
 rw [if_neg c3, if_neg c3, show wrap64 (3 + 1) = 4 by decide +kernel, octet_Least.l0, if_pos (by decide), show wrap64 (8 * 4) = 32 by decide +kernel, if_pos (by decide), sh32]
 by_cases c4 : n / 4294967296 = 0
 ·rw [if_pos c4, if_pos c4, byl (j := 4) (by rw [by4, sh32, c4]; rfl)]
  rw [sh24, sh16, sh8, sh0]
  simp only [bE, List.nil_append, List.cons_append, Option.some.injEq, List.cons.injEq, and_true]
  omega
 rw [if_neg c4, if_neg c4, show wrap64 (4 + 1) = 5 by decide +kernel, octet_Least.l0, if_pos (by decide), show wrap64 (8 * 5) = 40 by decide +kernel, if_pos (by decide), sh40]
 by_cases c5 : n / 1099511627776 = 0
 ·rw [if_pos c5, if_pos c5, byl (j := 3) (by rw [by5, sh40, c5]; rfl)]
  rw [sh32, sh24, sh16, sh8, sh0]
  simp only [bE, List.nil_append, List.cons_append, Option.some.injEq, List.cons.injEq, and_true]
  omega
 rw [if_neg c5, if_neg c5, show wrap64 (5 + 1) = 6 by decide +kernel, octet_Least.l0, if_pos (by decide), show wrap64 (8 * 6) = 48 by decide +kernel, if_pos (by decide), sh48]
 by_cases c6 : n / 281474976710656 = 0
 ·rw [if_pos c6, if_pos c6, byl (j := 2) (by rw [by6, sh48, c6]; rfl)]
  rw [sh40, sh32, sh24, sh16, sh8, sh0]
  simp only [bE, List.nil_append, List.cons_append, Option.some.injEq, List.cons.injEq, and_true]
  omega
 rw [if_neg c6, if_neg c6, show wrap64 (6 + 1) = 7 by decide +kernel, octet_Least.l0, if_pos (by decide), show wrap64 (8 * 7) = 56 by decide +kernel, if_pos (by decide), sh56]
 by_cases c7 : n / 72057594037927936 = 0
 ·rw [if_pos c7, if_pos c7, byl (j := 1) (by rw [by7, sh56, c7]; rfl)]
  rw [sh48, sh40, sh32, sh24, sh16, sh8, sh0]
  simp only [bE, List.nil_append, List.cons_append, Option.some.injEq, List.cons.injEq, and_true]
  omega
 rw [if_neg c7, if_neg c7, show wrap64 (7 + 1) = 8 by decide +kernel, octet_Least.l0, if_neg (by decide), byl (j := 0) (by8 n)]
 rw [sh56, sh48, sh40, sh32, sh24, sh16, sh8, sh0]
 simp only [bE, List.nil_append, List.cons_append, Option.some.injEq, List.cons.injEq, and_true]
 omega
theorem bE_byte : ∀ (m : Nat) (n : Int), (∀ v ∈ bE m n, 0 ≤ v ∧ v < 256) ∧ (bE m n).length = m
 | 0, n => ⟨(fun v hv => by cases hv), rfl⟩
 | m + 1, n => by
  have h := bE_byte m (n / 256)
  refine ⟨fun v hv => ?_, by rw [bE, List.length_append, h.2]; rfl⟩
  rw [bE] at hv
  rcases List.mem_append.1 hv with hv | hv
  ·exact h.1 v hv
  ·simp at hv; omega
/-- The number of bytes. -/
def numF (l : List Int) : Int := l.foldl (fun a c => a * 256 + c) 0
theorem numF_snoc (l : List Int) (x : Int) : numF (l ++ [x]) = numF l * 256 + x := by unfold numF; rw [List.foldl_append]; rfl
theorem numF_bE : ∀ (m : Nat) (n : Int), 0 ≤ n → n < 256 ^ m → numF (bE m n) = n
 | 0, n, h0, h1 => by
  simp at h1
  have : n = 0 := by omega
  subst this
  rfl
 | m + 1, n, h0, h1 => by
  rw [bE, numF_snoc, numF_bE m (n / 256) (by omega) (by
   rw [Int.pow_succ] at h1
   exact Int.ediv_lt_of_lt_mul (by decide) h1)]
  omega
theorem least_p (n : Int) (h0 : 0 ≤ n) (h1 : n < 18446744073709551616) : ∃ m, 1 ≤ m ∧ m ≤ 8 ∧ leastP n = bE m n ∧ n < 256 ^ m := by
 unfold leastP
 by_cases c1 : n / 256 = 0
 ·exact ⟨1, by decide, by decide, by rw [if_pos c1], by show n < 256; omega⟩
 rw [if_neg c1]
 by_cases c2 : n / 65536 = 0
 ·exact ⟨2, by decide, by decide, by rw [if_pos c2], by show n < 65536; omega⟩
 rw [if_neg c2]
 by_cases c3 : n / 16777216 = 0
 ·exact ⟨3, by decide, by decide, by rw [if_pos c3], by show n < 16777216; omega⟩
 rw [if_neg c3]
 by_cases c4 : n / 4294967296 = 0
 ·exact ⟨4, by decide, by decide, by rw [if_pos c4], by show n < 4294967296; omega⟩
 rw [if_neg c4]
 by_cases c5 : n / 1099511627776 = 0
 ·exact ⟨5, by decide, by decide, by rw [if_pos c5], by show n < 1099511627776; omega⟩
 rw [if_neg c5]
 by_cases c6 : n / 281474976710656 = 0
 ·exact ⟨6, by decide, by decide, by rw [if_pos c6], by show n < 281474976710656; omega⟩
 rw [if_neg c6]
 by_cases c7 : n / 72057594037927936 = 0
 ·exact ⟨7, by decide, by decide, by rw [if_pos c7], by show n < 72057594037927936; omega⟩
 rw [if_neg c7]
 exact ⟨8, by decide, by decide, rfl, by show n < 18446744073709551616; omega⟩
/-- A whole number as an element. -/
def intT (n : Int) : T := bigT (leastP n)
theorem int_f (n : Int) (h0 : 0 ≤ n) (h1 : n < 18446744073709551616) : scalar_Int.f 20 n = some (2, bigB (stripZ (leastP n)), []) := by
 obtain ⟨m, m1, m2, hm, _⟩ := least_p n h0 h1
 have hb := bE_byte m n
 unfold scalar_Int.f
 rw [least_f n h0, Option.bind_some]
 unfold scalar_Big.f
 rw [if_pos ⟨by rw [hm, hb.2]; omega, by rw [hm]; exact hb.1⟩]
 rfl

end Go.Proofs.YtmbgjhkemlliaaaDoor.Tlv
end

section
set_option linter.unusedVariables false
set_option linter.unusedSimpArgs false
namespace Go.Proofs.YtmbgjhkemlliaaaDoor.Tlv
open Go.RowKit Go.Proofs.YtmbgjhkemlliaaaDoorW.PrintWords Go.Proofs.YtmbgjhkemlliaaaDoorW.PrintLast Go.Proofs.YtmbgjhkemlliaaaDoorW.PrintMore Go.Proofs.YtmbgjhkemlliaaaDoor.PT

/-- The number of bytes, if it is not too large. -/
def numP : List Int → Option Int
 | [] => some 0
 | x :: l => if l.length + 1 ≤ 8 then some (numF (x :: l)) else if x = 0 then numP l else none
theorem numP_small {l : List Int} (h : l.length ≤ 8) : numP l = some (numF l) := by
 cases l with
 | nil => rfl
 | cons x l => rw [numP, if_pos (by simpa using h)]
end Go.Proofs.YtmbgjhkemlliaaaDoor.Tlv
end

section
set_option linter.unusedVariables false
set_option linter.unusedSimpArgs false
namespace Go.Proofs.YtmbgjhkemlliaaaDoor.Tlv
open Go.RowKit Go.Proofs.YtmbgjhkemlliaaaDoorW.PrintWords Go.Proofs.YtmbgjhkemlliaaaDoorW.PrintLast Go.Proofs.YtmbgjhkemlliaaaDoorW.PrintMore Go.Proofs.YtmbgjhkemlliaaaDoor.PT

set_option maxHeartbeats 4000000 in
set_option maxRecDepth 100000 in
theorem of1_walk (p q : Nat) (B : Option Addr) (cb : Nat) (lb : List Int) (many : Int) (r : T) (r4 : Int) (w : World) (tp tq : TypeId) (hp : w.heap[p]? = some (.cells #[.slice B lb.length cb] tp (0, 0))) (hq : w.heap[q]? = some (.cells #[.int .i64 many] tq (0, 0)))
 (hr : ReadsInt w .u8 B lb.length lb) (hc : lb.length ≤ cb) (hf : scalar_Bits.f lb many = some (r.f0, r.f1, r.f2, r4)) :
 Calls Tryd.prog 38 #[.pointer (some ⟨p, 0, none⟩), .pointer (some ⟨q, 0, none⟩)] w fun e w' => ∃ v1 v2, e = .returned (.tuple #[.agg #[.int .i64 r.f0, v1, v2], .int .i64 r4]) ∧ NodeR w' w.heap.size w'.heap.size r v1 v2 ∧ Below w.heap.size w w' := by
 have p0 : (w.alloc (.cells #[.int .i64 0, .slice none 0 0, .slice none 0 0] 28)).cell? ⟨p, 0, none⟩ = some (.slice B lb.length cb) := Lib.cell_of_heap ((Below.heap_alloc w _ _ (heap_lt hp)).trans hp) 0
 have q0 : (w.alloc (.cells #[.int .i64 0, .slice none 0 0, .slice none 0 0] 28)).cell? ⟨q, 0, none⟩ = some (.int .i64 many) := Lib.cell_of_heap ((Below.heap_alloc w _ _ (heap_lt hq)).trans hq) 0
 have hb0 : (w.alloc (.cells #[.int .i64 0, .slice none 0 0, .slice none 0 0] 28)).heap[w.heap.size]? = some (.cells #[.int .i64 0, .slice none 0 0, .slice none 0 0] 28 (0, 0)) := heap_alloc_new w _
 have hB1 : Below w.heap.size w (w.alloc (.cells #[.int .i64 0, .slice none 0 0, .slice none 0 0] 28)) := (Below.refl _ _).alloc (Nat.le_refl _) _
 have HBITS := Lib.hid (scalar_Bits.calls B cb lb many r.f0 r.f1 r.f2 r4 (w.alloc (.cells #[.int .i64 0, .slice none 0 0, .slice none 0 0] 28)) (Kd.C_below (C_of_reads hr rfl) hB1) hc hf)
 have p1 : w.cell? ⟨p, 0, none⟩ = some (.slice B lb.length cb) := Lib.cell_of_heap hp 0
 have q1 : w.cell? ⟨q, 0, none⟩ = some (.int .i64 many) := Lib.cell_of_heap hq 0
 have hpn : p < w.heap.size := heap_lt hp
 have hqn : q < w.heap.size := heap_lt hq
 have hpe : (p = w.heap.size) = False := eq_false (by omega)
 have hqe : (q = w.heap.size) = False := eq_false (by omega)
 clear hp hq hr hc hf
 have HB00 := Lib.hid hb0
 have HB11 := Lib.hid hB1
 clear hb0 hB1
 go_enter Tryd.func38, Tryd.ntmps38
 go_wp2_with (fail)
 refine HBITS.out.mono ?_
 have hb0 := HB00.out
 have hB1 := HB11.out
 generalize w.alloc (.cells #[.int .i64 0, .slice none 0 0, .slice none 0 0] 28) = w1 at p0 q0 hb0 hB1 HBITS HB00 HB11
 rintro e w3 ⟨v1, v2, rfl, hv1, hv2, hB3⟩
 obtain ⟨A1, c1, rfl⟩ := Kd.R_slice hv1
 obtain ⟨A2, c2, rfl⟩ := Kd.R_slice hv2
 have hb3 := (hB3.block _ (heap_lt hb0)).trans hb0
 have hB := hB1.trans (hB3.mono hB1.size)
 have h0 := NodeR.of (n := r) hv1 hv2
 have H0 := Lib.hid h0
 have HB := Lib.hid hB
 have HB3 := Lib.hid hb3
 have HLT := Lib.hid (And.intro (heap_lt hb0) hB3.size)
 have a0 := Lib.cell_of_heap hb3 0
 have a1 := Lib.cell_of_heap hb3 1
 have a2 := Lib.cell_of_heap hb3 2
 have f0 := Lib.frozen_of_heap hb3 0
 have f1 := Lib.frozen_of_heap hb3 1
 have f2 := Lib.frozen_of_heap hb3 2
 have hsz : w.heap.size < w1.heap.size := heap_lt hb0
 clear h0 hB hb3 hB3 hv1 hv2 p0 q0 p1 q1 hpn hqn hpe hqe hb0 hB1 HBITS HB00 HB11
 go_wp2
 have z0 : (((w3.setCell ⟨w.heap.size, 0, none⟩ (.int .i64 r.f0)).setCell ⟨w.heap.size, 1, none⟩ (.slice A1 r.f1.length c1)).setCell ⟨w.heap.size, 2, none⟩ (.slice A2 r.f2.length c2)).heap[w.heap.size]? = some (.cells #[.int .i64 r.f0, .slice A1 r.f1.length c1, .slice A2 r.f2.length c2] 28 (0, 0)) :=
  heap_setCell_same _ _ 2 _ _ _ (heap_setCell_same _ _ 1 _ _ _ (heap_setCell_same _ _ 0 _ _ _ HB3.out))
 have zB : Below w.heap.size w (((w3.setCell ⟨w.heap.size, 0, none⟩ (.int .i64 r.f0)).setCell ⟨w.heap.size, 1, none⟩ (.slice A1 r.f1.length c1)).setCell ⟨w.heap.size, 2, none⟩ (.slice A2 r.f2.length c2)) :=
  Below.setCell (Below.setCell (Below.setCell HB.out (p := ⟨w.heap.size, 0, none⟩) (Nat.le_refl _) _) (p := ⟨w.heap.size, 1, none⟩) (Nat.le_refl _) _) (p := ⟨w.heap.size, 2, none⟩) (Nat.le_refl _) _
 have zk : ∀ k, k ≠ w.heap.size → (((w3.setCell ⟨w.heap.size, 0, none⟩ (.int .i64 r.f0)).setCell ⟨w.heap.size, 1, none⟩ (.slice A1 r.f1.length c1)).setCell ⟨w.heap.size, 2, none⟩ (.slice A2 r.f2.length c2)).heap[k]? = w3.heap[k]? :=
  fun k hk => (heap_setCell_other _ _ _ _ hk).trans ((heap_setCell_other _ _ _ _ hk).trans (heap_setCell_other _ _ _ _ hk))
 have zs : (((w3.setCell ⟨w.heap.size, 0, none⟩ (.int .i64 r.f0)).setCell ⟨w.heap.size, 1, none⟩ (.slice A1 r.f1.length c1)).setCell ⟨w.heap.size, 2, none⟩ (.slice A2 r.f2.length c2)).heap.size = w3.heap.size := by simp
 generalize ((w3.setCell ⟨w.heap.size, 0, none⟩ (.int .i64 r.f0)).setCell ⟨w.heap.size, 1, none⟩ (.slice A1 r.f1.length c1)).setCell ⟨w.heap.size, 2, none⟩ (.slice A2 r.f2.length c2) = w5 at z0 zB zk zs ⊢
 have b0 := Lib.cell_of_heap z0 0
 have b1 := Lib.cell_of_heap z0 1
 have b2 := Lib.cell_of_heap z0 2
 refine bodyPost_ret (v := .tuple #[.agg #[.int .i64 r.f0, .slice A1 r.f1.length c1, .slice A2 r.f2.length c2], .int .i64 r4]) (by simp [results, Tryd.results38, go_sem, b0, b1, b2]) rfl ?_
 refine ⟨_, _, rfl, ?_, zB⟩
 exact NodeR.widen (NodeR.move (w1 := w5) H0.out (fun k hk1 hk2 => zk k (by omega))) (by omega) (by omega)

def sameB (r n : T) : Bool := decide (r.f0 = n.f0) && (eqB r.f1 n.f1 && (wrap64 ((r.f2.length : Int) + (n.f2.length : Int)) == 0))
theorem sameB_f (r n : T) : scalar_same.f r.f0 r.f1 r.f2 n.f0 n.f1 n.f2 = some (sameB r n) := by
 unfold scalar_same.f sameB bytes_Equal.f
 by_cases h : r.f0 = n.f0
 ·rw [if_pos h, Option.bind_some, decide_eq_true h]
  show (if eqB r.f1 n.f1 = true then _ else _) = _
  generalize (wrap64 ((r.f2.length : Int) + (n.f2.length : Int)) == 0) = z
  cases eqB r.f1 n.f1 <;> cases z <;> rfl
 ·rw [if_neg h, decide_eq_false h, Bool.false_and]

set_option maxHeartbeats 4000000 in
set_option maxRecDepth 100000 in
theorem just_walk (X : Option Addr) (x : List Int) (cx : Nat) (n : T) (A1 : Option Addr) (c1 : Nat) (A2 : Option Addr) (c2 : Nat) (p q : Nat) (w : World) (hn : NodeAt w n A1 c1 A2 c2)
 (B : Option Addr) (cb : Nat) (lb : List Int) (many : Int) (r : T) (r4 : Int) (tp tq : TypeId) (hp : w.heap[p]? = some (.cells #[.slice B lb.length cb] tp (0, 0))) (hq : w.heap[q]? = some (.cells #[.int .i64 many] tq (0, 0)))
 (hr : ReadsInt w .u8 B lb.length lb) (hc : lb.length ≤ cb) (hf : scalar_Bits.f lb many = some (r.f0, r.f1, r.f2, r4)) :
 Calls Tryd.prog 37 #[.slice X x.length cx, .bool true, .agg #[.int .i64 n.f0, .slice A1 n.f1.length c1, .slice A2 n.f2.length c2], .func (.func 38) #[] #[.pointer (some ⟨p, 0, none⟩), .pointer (some ⟨q, 0, none⟩)]] w
  fun e w' => e = .returned (if r4 = 0 ∧ sameB r n = true then .tuple #[.slice X x.length cx, .int .i64 0] else .tuple #[.slice none 0 0, .int .i64 2]) ∧ Below w.heap.size w w' := by
 have hnot : ∀ (x : Bool) (w : World), (Op.unary .not (.bool x)).run Tryd.prog w = .ok (.bool (!x)) w := fun _ _ => rfl
 have hb0 : (w.alloc (.cells #[.int .i64 n.f0, .slice A1 n.f1.length c1, .slice A2 n.f2.length c2] 28)).heap[w.heap.size]? = some (.cells #[.int .i64 n.f0, .slice A1 n.f1.length c1, .slice A2 n.f2.length c2] 28 (0, 0)) := heap_alloc_new w _
 have hB1 : Below w.heap.size w (w.alloc (.cells #[.int .i64 n.f0, .slice A1 n.f1.length c1, .slice A2 n.f2.length c2] 28)) := (Below.refl _ _).alloc (Nat.le_refl _) _
 have HLAY := Lib.hid (of1_walk p q B cb lb many r r4 _ tp tq ((hB1.block _ (heap_lt hp)).trans hp) ((hB1.block _ (heap_lt hq)).trans hq) (ReadsInt_below hr hB1) hc hf)
 have HN := Lib.hid (fun w' (hB : Below w.heap.size w w') => hn.below hB)
 have HB0 := Lib.hid hb0
 have HB1 := Lib.hid hB1
 generalize hRR : (if r4 = 0 ∧ sameB r n = true then Value.tuple #[.slice X x.length cx, .int .i64 0] else .tuple #[.slice none 0 0, .int .i64 2]) = RR
 clear hp hq hr hc hf hn hb0 hB1
 go_enter Tryd.func37, Tryd.ntmps37
 go_wp2_with (fail)
 refine HLAY.out.mono ?_
 rintro e w3 ⟨v1, v2, rfl, hv, hB3⟩
 obtain ⟨M1, m1, M2, m2, rfl, rfl, hm⟩ := hv.form
 have hb3 := (hB3.block _ (heap_lt HB0.out)).trans HB0.out
 have hB := HB1.out.trans (hB3.mono HB1.out.size)
 have HM := Lib.hid hm
 have HB := Lib.hid hB
 have HB3 := Lib.hid hb3
 have a0 := Lib.cell_of_heap hb3 0
 have a1 := Lib.cell_of_heap hb3 1
 have a2 := Lib.cell_of_heap hb3 2
 have hlt := heap_lt hb3
 clear hv hm hB hb3 hB3 HLAY
 by_cases h4 : r4 = 0
 ·subst h4
  have HSAME := Lib.hid (scalar_same.calls r.f0 M1 m1 r.f1 M2 m2 r.f2 n.f0 A1 c1 n.f1 A2 c2 n.f2 (sameB r n) (w3.alloc (.cells #[.int .i64 r.f0, .slice M1 r.f1.length m1, .slice M2 r.f2.length m2] 28))
   (Kd.C_below HM.out.1 ((Below.refl _ _).alloc (Nat.le_refl _) _)) HM.out.2.1 (Kd.C_below HM.out.2.2.1 ((Below.refl _ _).alloc (Nat.le_refl _) _)) HM.out.2.2.2
   (Kd.C_below (HN.out _ HB.out).1 ((Below.refl _ _).alloc (Nat.le_refl _) _)) (HN.out _ HB.out).2.1 (Kd.C_below (HN.out _ HB.out).2.2.1 ((Below.refl _ _).alloc (Nat.le_refl _) _)) (HN.out _ HB.out).2.2.2 (sameB_f r n))
  have HBF := Lib.hid (show Below w.heap.size w (w3.alloc (.cells #[.int .i64 r.f0, .slice M1 r.f1.length m1, .slice M2 r.f2.length m2] 28)) from HB.out.alloc HB.out.size _)
  go_wp2_with (fail)
  refine HSAME.out.mono ?_
  rintro e w4 ⟨rfl, hB4⟩
  have hBf := HBF.out.trans (hB4.mono HBF.out.size)
  clear hB4
  cases hs : sameB r n with
  | true =>
   have hp : RR = .tuple #[.slice X x.length cx, .int .i64 0] := by rw [← hRR]; simp [hs]
   clear hRR
   subst hp
   clear hs
   go_wp2
   go_ret2
   exact ⟨by first | rfl | trivial | simp, hBf⟩
  | false =>
   have hp : RR = .tuple #[.slice none 0 0, .int .i64 2] := by rw [← hRR, if_neg (by rw [hs]; simp)]
   clear hRR
   subst hp
   clear hs
   go_wp2
   go_ret2
   exact ⟨by first | rfl | trivial | simp, hBf⟩
 ·have hp : RR = .tuple #[.slice none 0 0, .int .i64 2] := by rw [← hRR, if_neg (fun h => h4 h.1)]
  clear hRR
  subst hp
  have h4' : decide (r4 = 0) = false := decide_eq_false h4
  have h4'' := eq_false h4
  clear h4
  have HBF := Lib.hid (show Below w.heap.size w (w3.alloc (.cells #[.int .i64 r.f0, .slice M1 r.f1.length m1, .slice M2 r.f2.length m2] 28)) from HB.out.alloc HB.out.size _)
  go_wp2
  go_ret2
  exact ⟨by first | rfl | trivial | simp, HBF.out⟩

end Go.Proofs.YtmbgjhkemlliaaaDoor.Tlv
end

section
set_option linter.unusedVariables false
set_option linter.unusedSimpArgs false
namespace Go.Proofs.YtmbgjhkemlliaaaDoor.Tlv
open Go.RowKit Go.Proofs.YtmbgjhkemlliaaaDoorW.PrintWords Go.Proofs.YtmbgjhkemlliaaaDoorW.PrintLast Go.Proofs.YtmbgjhkemlliaaaDoorW.PrintMore Go.Proofs.YtmbgjhkemlliaaaDoor.PT

end Go.Proofs.YtmbgjhkemlliaaaDoor.Tlv
end

section
set_option linter.unusedVariables false
set_option linter.unusedSimpArgs false
namespace Go.Proofs.YtmbgjhkemlliaaaDoor.Tlv
open Go.RowKit Go.Proofs.YtmbgjhkemlliaaaDoorW.PrintWords Go.Proofs.YtmbgjhkemlliaaaDoorW.PrintLast Go.Proofs.YtmbgjhkemlliaaaDoorW.PrintMore Go.Proofs.YtmbgjhkemlliaaaDoor.PT

/-- The bytes of a great number's element. -/
def greatP (n : T) : Option (List Int) := if n.f2 = [] ∧ sameB (bigT n.f1) n = true then some (stripZ n.f1) else none
/-- The number of an element. -/
def uintP (n : T) : Option Int := match numP n.f1 with
 | none => none
 | some x => if sameB (intT x) n = true then some x else none
end Go.Proofs.YtmbgjhkemlliaaaDoor.Tlv
end

section
set_option linter.unusedVariables false
set_option linter.unusedSimpArgs false
namespace Go.Proofs.YtmbgjhkemlliaaaDoor.Tlv
open Go.RowKit Go.Proofs.YtmbgjhkemlliaaaDoorW.PrintWords Go.Proofs.YtmbgjhkemlliaaaDoorW.PrintLast Go.Proofs.YtmbgjhkemlliaaaDoorW.PrintMore Go.Proofs.YtmbgjhkemlliaaaDoor.PT

mutual
def wT : T → Int
 | ⟨_, body, kids⟩ => 1 + (body.length : Int) + wL kids
def wL : List T → Int
 | [] => 0
 | t :: l => wT t + wL l
end
mutual
theorem wT_pos : ∀ t : T, 1 ≤ wT t
 | ⟨_, body, kids⟩ => by rw [wT]; have := wL_pos kids; omega
theorem wL_pos : ∀ l : List T, 0 ≤ wL l
 | [] => by decide
 | t :: l => by rw [wL]; have := wT_pos t; have := wL_pos l; omega
end
theorem wL_len : ∀ l : List T, (l.length : Int) ≤ wL l
 | [] => by decide
 | t :: l => by rw [wL, List.length_cons]; have := wT_pos t; have := wL_len l; omega
theorem wL_mem : ∀ (l : List T) (t : T), t ∈ l → wT t ≤ wL l
 | [], _, h => by cases h
 | u :: l, t, h => by
  rw [wL]
  have := wT_pos u
  have := wL_pos l
  rcases List.mem_cons.1 h with rfl | h
  ·omega
  ·have := wL_mem l t h; omega
mutual
theorem size_wT : ∀ t : T, sizeT t ≤ 5 * wT t
 | ⟨tag, body, kids⟩ => by
  rw [sizeT, wT]
  have h := size_wL kids
  have h1 := headLen_pos (sizeL kids)
  have h2 := headLen_pos body.length
  have h3 := wL_pos kids
  split <;> omega
theorem size_wL : ∀ l : List T, sizeL l ≤ 5 * wL l
 | [] => by decide
 | t :: l => by rw [sizeL, wL]; have := size_wT t; have := size_wL l; omega
end
/-- An induction over an element's parts, for elements of a bounded weight. -/
theorem node_ind {P : T → Prop} (step : ∀ n : T, wT n ≤ 1000000 → (∀ t, t ∈ n.f2 → P t) → P n) : ∀ (m : Nat) (n : T), SizeOf.sizeOf n ≤ m → wT n ≤ 1000000 → P n
 | 0, ⟨a, b, c⟩, h, _ => by simp at h
 | m + 1, ⟨a, b, c⟩, h, hw => step _ hw fun t ht => node_ind step m t (by
  have := List.sizeOf_lt_of_mem ht
  simp at h this
  omega) (by
  have h1 := wL_mem c t ht
  rw [wT] at hw
  omega)
theorem node_any {P : T → Prop} (step : ∀ n : T, wT n ≤ 1000000 → (∀ t, t ∈ n.f2 → P t) → P n) (n : T) (hw : wT n ≤ 1000000) : P n := node_ind step _ n (Nat.le_refl _) hw
theorem kids_w {n : T} (hw : wT n ≤ 1000000) : n.f2.length ≤ 1000000 ∧ n.f1.length ≤ 1000000 ∧ wL n.f2 ≤ 1000000 := by
 obtain ⟨a, b, c⟩ := n
 rw [wT] at hw
 have h1 := wL_len c
 have h2 := wL_pos c
 dsimp only
 omega
end Go.Proofs.YtmbgjhkemlliaaaDoor.Tlv
end
