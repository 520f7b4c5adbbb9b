/- Merged by a program of this session (wip/tools/pack.py). -/
import Derived.Test.YtmbgjhkemlliaaaKSpkiSeals4
/- The machine side: functions as plain Lean functions, and that the calls come to what these say; written by a program of this session (wip/tools/inc.py over the kit's printer). -/
section
namespace Go.Proofs.Ytmbgjhkemlliaaa.PT
open Go.RowKit Go.Proofs.YtmbgjhkemlliaaaW.PrintWords Go.Proofs.YtmbgjhkemlliaaaW.PrintLast Go.Proofs.YtmbgjhkemlliaaaW.PrintMore
attribute [local go_sem] max2_int min2_int max_two min_two max_three min_three max_four min_four   -- for this text's walks alone
set_option linter.unusedVariables false
set_option linter.unusedSimpArgs false

/-! ### lanyardref04_Same: function 11 -/
mutual
def lanyardref04_Same.j0 : Nat → Bool → Int → List Int → List (S25) → Int → List Int → List (S25) → Option (Bool)
 | 0, _, _, _, _, _, _, _ => none
 | k + 1, x28, x270000, x270001, x270002, x271000, x271001, x271002 => if x28 = true then (some false) else (lanyardref04_Same.l0 k 0 x270000 x270001 x270002 x271000 x271001 x271002)
def lanyardref04_Same.l0 : Nat → Int → Int → List Int → List (S25) → Int → List Int → List (S25) → Option (Bool)
 | 0, _, _, _, _, _, _, _ => none
 | k + 1, x5, x270000, x270001, x270002, x271000, x271001, x271002 => if x5 < (x270002.length : Int) then (if 0 ≤ x5 then (if x5 < (x271002.length : Int) then ((lanyardref04_Same.f k ((rd_T25 x270002 x5).f0) ((rd_T25 x270002 x5).f1) ((rd_T25 x270002 x5).f2) ((rd_T25 x271002 x5).f0) ((rd_T25 x271002 x5).f1) ((rd_T25 x271002 x5).f2)).bind fun t273 => (if t273 = true then (lanyardref04_Same.l0 k (wrap64 (x5 + 1)) x270000 x270001 x270002 x271000 x271001 x271002) else (some false))) else (none)) else (none)) else (some true)
def lanyardref04_Same.f : Nat → Int → List Int → List (S25) → Int → List Int → List (S25) → Option (Bool)
 | 0, _, _, _, _, _, _ => none
 | k + 1, a0_0, l0_1, l0_2, a1_0, l1_1, l1_2 => if a0_0 = a1_0 then (if (strOfNums l0_1).toList = (strOfNums l1_1).toList then (lanyardref04_Same.j0 k ((l0_2.length : Int) != (l1_2.length : Int)) a0_0 l0_1 l0_2 a1_0 l1_1 l1_2) else (lanyardref04_Same.j0 k true a0_0 l0_1 l0_2 a1_0 l1_1 l1_2)) else (lanyardref04_Same.j0 k true a0_0 l0_1 l0_2 a1_0 l1_1 l1_2)
end
theorem lanyardref04_Same.mono_l : ∀ k, (∀ y0 y1 y2 y3 y4 y5, LeO (lanyardref04_Same.f k y0 y1 y2 y3 y4 y5) (lanyardref04_Same.f (k + 1) y0 y1 y2 y3 y4 y5)) ∧ (∀ y0 y1 y2 y3 y4 y5 y6, LeO (lanyardref04_Same.j0 k y0 y1 y2 y3 y4 y5 y6) (lanyardref04_Same.j0 (k + 1) y0 y1 y2 y3 y4 y5 y6)) ∧ (∀ y0 y1 y2 y3 y4 y5 y6, LeO (lanyardref04_Same.l0 k y0 y1 y2 y3 y4 y5 y6) (lanyardref04_Same.l0 (k + 1) y0 y1 y2 y3 y4 y5 y6))
 | 0 => ⟨fun _ _ _ _ _ _ r h => by simp [lanyardref04_Same.f] at h, fun _ _ _ _ _ _ _ r h => by simp [lanyardref04_Same.j0] at h, fun _ _ _ _ _ _ _ r h => by simp [lanyardref04_Same.l0] at h⟩
 | k + 1 => by
  obtain ⟨ih0, ih1, ih2⟩ := lanyardref04_Same.mono_l k
  refine ⟨?_, ?_, ?_⟩
  ·intro y0 y1 y2 y3 y4 y5
   unfold lanyardref04_Same.f
   repeat' first
   | (with_reducible exact ih0 _ _ _ _ _ _)
   | (with_reducible exact ih1 _ _ _ _ _ _ _)
   | (with_reducible exact ih2 _ _ _ _ _ _ _)
   | (with_reducible exact LeO.refl _)
   | (with_reducible exact LeO.none _)
   | (with_reducible refine LeO.ite ?_ ?_)
   | (with_reducible refine LeO.bind ?_ (fun _ => ?_))
   | exact ih0 _ _ _ _ _ _
   | exact ih1 _ _ _ _ _ _ _
   | exact ih2 _ _ _ _ _ _ _
   | exact LeO.none _
   | refine LeO.ite ?_ ?_
   | refine LeO.bind ?_ (fun _ => ?_)
  ·intro y0 y1 y2 y3 y4 y5 y6
   unfold lanyardref04_Same.j0
   repeat' first
   | (with_reducible exact ih0 _ _ _ _ _ _)
   | (with_reducible exact ih1 _ _ _ _ _ _ _)
   | (with_reducible exact ih2 _ _ _ _ _ _ _)
   | (with_reducible exact LeO.refl _)
   | (with_reducible exact LeO.none _)
   | (with_reducible refine LeO.ite ?_ ?_)
   | (with_reducible refine LeO.bind ?_ (fun _ => ?_))
   | exact ih0 _ _ _ _ _ _
   | exact ih1 _ _ _ _ _ _ _
   | exact ih2 _ _ _ _ _ _ _
   | exact LeO.none _
   | refine LeO.ite ?_ ?_
   | refine LeO.bind ?_ (fun _ => ?_)
  ·intro y0 y1 y2 y3 y4 y5 y6
   unfold lanyardref04_Same.l0
   repeat' first
   | (with_reducible exact ih0 _ _ _ _ _ _)
   | (with_reducible exact ih1 _ _ _ _ _ _ _)
   | (with_reducible exact ih2 _ _ _ _ _ _ _)
   | (with_reducible exact LeO.refl _)
   | (with_reducible exact LeO.none _)
   | (with_reducible refine LeO.ite ?_ ?_)
   | (with_reducible refine LeO.bind ?_ (fun _ => ?_))
   | exact ih0 _ _ _ _ _ _
   | exact ih1 _ _ _ _ _ _ _
   | exact ih2 _ _ _ _ _ _ _
   | exact LeO.none _
   | refine LeO.ite ?_ ?_
   | refine LeO.bind ?_ (fun _ => ?_)
theorem lanyardref04_Same.mono : ∀ a0 a1 a2 a3 a4 a5 k, LeO (lanyardref04_Same.f k a0 a1 a2 a3 a4 a5) (lanyardref04_Same.f (k + 1) a0 a1 a2 a3 a4 a5) := by
 intro a0 a1 a2 a3 a4 a5 k
 obtain ⟨ih0, ih1, ih2⟩ := lanyardref04_Same.mono_l k
 exact ih0 a0 a1 a2 a3 a4 a5
def lanyardref04_Same.T6 : Bool × List (List Nat × List Nat) := (true, [([], []), ([0], [0]), ([], []), ([1, 2], [1, 2]), ([3], [3]), ([], []), ([5], [5]), ([], []), ([6, 7], [6, 7]), ([8], [8]), ([4, 9], [4, 9]), ([10], [10])])
def lanyardref04_Same.B6 : List Nat := [0, 1, 0, 7, 15, 0, 32, 0, 224, 480, 1023, 2047]
theorem lanyardref04_Same.tab6 : rtab .any (opsOf Try.f11 6) = lanyardref04_Same.T6 := by kernel_rfl
theorem lanyardref04_Same.bits6 : waitsOk lanyardref04_Same.T6.2 lanyardref04_Same.B6 = true := by kernel_rfl
set_option maxHeartbeats 8000000 in
set_option maxRecDepth 100000 in
theorem lanyardref04_Same.calls (k : Nat) : ∀ (a0_0 : Int) (A0_1 : Option Addr) (c0_1 : Nat) (l0_1 : List Int) (A0_2 : Option Addr) (c0_2 : Nat) (l0_2 : List (S25)) (a1_0 : Int) (A1_1 : Option Addr) (c1_1 : Nat) (l1_1 : List Int) (A1_2 : Option Addr) (c1_2 : Nat) (l1_2 : List (S25)) (r : Bool) (w : World) (hr0_1 : Kd.C (Kd.int .u8) w A0_1 l0_1.length l0_1) (hc0_1 : l0_1.length ≤ c0_1) (hr0_2 : Kd.C k25 w A0_2 l0_2.length l0_2) (hc0_2 : l0_2.length ≤ c0_2) (hr1_1 : Kd.C (Kd.int .u8) w A1_1 l1_1.length l1_1) (hc1_1 : l1_1.length ≤ c1_1) (hr1_2 : Kd.C k25 w A1_2 l1_2.length l1_2) (hc1_2 : l1_2.length ≤ c1_2) (h : lanyardref04_Same.f k a0_0 l0_1 l0_2 a1_0 l1_1 l1_2 = some r),
 Calls Try.prog 11 #[.agg #[.int .i64 a0_0, .slice A0_1 l0_1.length c0_1, .slice A0_2 l0_2.length c0_2], .agg #[.int .i64 a1_0, .slice A1_1 l1_1.length c1_1, .slice A1_2 l1_2.length c1_2]] w fun e w' => e = .returned (.bool r) ∧ Below w.heap.size w w' := by
 induction k using Nat.strongRecOn with
 | _ k ih =>
 intro a0_0 A0_1 c0_1 l0_1 A0_2 c0_2 l0_2 a1_0 A1_1 c1_1 l1_1 A1_2 c1_2 l1_2 r w hr0_1 hc0_1 hr0_2 hc0_2 hr1_1 hc1_1 hr1_2 hc1_2 h
 cases k with
 | zero => exact absurd h (by simp [lanyardref04_Same.f])
 | succ k =>
 simp only [lanyardref04_Same.f] at h
 have hu25 := Try.underlying25
 have HR0_1 := Aside0.mk hr0_1
 have HC0_1 := Aside0.mk hc0_1
 clear hr0_1 hc0_1
 have HR0_2 := Aside0.mk hr0_2
 have HC0_2 := Aside0.mk hc0_2
 clear hr0_2 hc0_2
 have HR1_1 := Aside0.mk hr1_1
 have HC1_1 := Aside0.mk hc1_1
 clear hr1_1 hc1_1
 have HR1_2 := Aside0.mk hr1_2
 have HC1_2 := Aside0.mk hc1_2
 clear hr1_2 hc1_2
 have HB := Aside0.mk (Below.refl w.heap.size w)
 have H : (if a0_0 = a1_0 then (if (strOfNums l0_1).toList = (strOfNums l1_1).toList then (lanyardref04_Same.j0 k ((l0_2.length : Int) != (l1_2.length : Int)) a0_0 l0_1 l0_2 a1_0 l1_1 l1_2) else (lanyardref04_Same.j0 k true a0_0 l0_1 l0_2 a1_0 l1_1 l1_2)) else (lanyardref04_Same.j0 k true a0_0 l0_1 l0_2 a1_0 l1_1 l1_2)) = some r := h
 clear h
 have HC3 := Aside0.mk H
 clear H
 go_enter Try.func11, Try.ntmps11
 go_upto_region 1 with (first | ((with_reducible refine gate_dst (N := 2) rfl ?_); (try (refine gate_guard (by rfl) ?_; dsimp only)); refine box_event ?hg (N := 2) ?hd (cs := #[.int .i64 a0_0, .slice A0_1 l0_1.length c0_1, .slice A0_2 l0_2.length c0_2]) (t := 25) ?hr ?_; (case hd => rfl); (case hg => rfl); (case hr => first | (go_simp; done) | (go_simp; rfl)); intro gb269 hg w4 hbox hb; have n0_ := Aside0.mk (below_step (by repeat (first | (with_reducible first | exact HB.out | apply below_alloc | apply pw_below_drewN | apply below_drew1) | exact HB.out)) hb); have n1_ := Aside0.mk (hbox); have n2_ := Aside0.mk ((by rw [hg]; exact (below_size (by repeat (first | (with_reducible first | exact HB.out | apply below_alloc | apply pw_below_drewN | apply below_drew1) | exact HB.out))) : w.heap.size ≤ gb269)); have n3_ := Aside0.mk ((by rw [hg]; exact (below_size (by repeat (first | (with_reducible first | exact HB.out | apply below_alloc | apply pw_below_drewN | apply below_drew1) | exact HB.out))) : w.heap.size ≤ gb269)); clear HB; have HB := n0_; have BK269 := n1_; have GW269 := n2_; have GE269 := n3_; clear n0_ n1_ n2_ n3_; clear hb hbox hg) | ((with_reducible refine gate_dst (N := 3) rfl ?_); (try (refine gate_guard (by rfl) ?_; dsimp only)); refine box_event ?hg (N := 3) ?hd (cs := #[.int .i64 a1_0, .slice A1_1 l1_1.length c1_1, .slice A1_2 l1_2.length c1_2]) (t := 25) ?hr ?_; (case hd => rfl); (case hg => rfl); (case hr => first | (go_simp; done) | (go_simp; rfl)); intro gb270 hg w5 hbox hb; have n0_ := Aside0.mk (blk_below (g := gb269) (o := .cells #[.int .i64 a0_0, .slice A0_1 l0_1.length c0_1, .slice A0_2 l0_2.length c0_2] 25 (0, 0)) (by (with_reducible repeat (first | refine blk_drewN ?_ _ | refine blk_drew ?_ | refine blk_alloc ?_ _)); exact BK269.out) hb); have n1_ := Aside0.mk (below_step (by repeat (first | (with_reducible first | exact HB.out | apply below_alloc | apply pw_below_drewN | apply below_drew1 | refine below_set ?_ GE269.out) | exact HB.out)) hb); have n2_ := Aside0.mk (hbox); have n3_ := Aside0.mk ((by rw [hg]; exact (below_size (by repeat (first | (with_reducible first | exact HB.out | apply below_alloc | apply pw_below_drewN | apply below_drew1 | refine below_set ?_ GE269.out) | exact HB.out))) : w.heap.size ≤ gb270)); have n4_ := Aside0.mk ((by rw [hg]; exact (below_size (by repeat (first | (with_reducible first | exact HB.out | apply below_alloc | apply pw_below_drewN | apply below_drew1 | refine below_set ?_ GE269.out) | exact HB.out))) : w.heap.size ≤ gb270)); have n5_ := Aside0.mk ((by rw [hg]; exact Nat.ne_of_lt (blk_lt (g := gb269) (o := .cells #[.int .i64 a0_0, .slice A0_1 l0_1.length c0_1, .slice A0_2 l0_2.length c0_2] 25 (0, 0)) (by (with_reducible repeat (first | refine blk_drewN ?_ _ | refine blk_drew ?_ | refine blk_alloc ?_ _)); exact BK269.out)) : gb269 ≠ gb270)); have n6_ := Aside0.mk ((by rw [hg]; exact Nat.ne_of_gt (blk_lt (g := gb269) (o := .cells #[.int .i64 a0_0, .slice A0_1 l0_1.length c0_1, .slice A0_2 l0_2.length c0_2] 25 (0, 0)) (by (with_reducible repeat (first | refine blk_drewN ?_ _ | refine blk_drew ?_ | refine blk_alloc ?_ _)); exact BK269.out)) : gb270 ≠ gb269)); clear BK269; clear HB; have BK269 := n0_; have HB := n1_; have BK270 := n2_; have GW270 := n3_; have GE270 := n4_; have NB269_270 := n5_; have NB270_269 := n6_; clear n0_ n1_ n2_ n3_ n4_ n5_ n6_; clear hb hbox hg))
 (try simp only [Act.put, List.setIfInBounds_toArray, List.set_cons_zero, List.set_cons_succ])
 go_cut [28] (fun v28 wc => ∃ (kq : Nat) (x28_2 : Bool), v28 = .bool x28_2 ∧ Aside0 (lanyardref04_Same.j0 kq x28_2 a0_0 l0_1 l0_2 a1_0 l1_1 l1_2 = some r) ∧ Aside0 (kq ≤ k) ∧ Aside0 (wc.heap[gb269]? = some (.cells #[.int .i64 a0_0, (.slice A0_1 l0_1.length c0_1), (.slice A0_2 l0_2.length c0_2)] 25 (0, 0))) ∧ Aside0 (wc.heap[gb270]? = some (.cells #[.int .i64 a1_0, (.slice A1_1 l1_1.length c1_1), (.slice A1_2 l1_2.length c1_2)] 25 (0, 0))) ∧ Aside0 (Below w.heap.size w wc))
 case first =>
  have H := HC3.out
  clear HC3
  by_cases c6 : a0_0 = a1_0
  ·rw [if_pos c6] at H
   have c6b0 : (a0_0 == a1_0) = true := beq_iff_eq.mpr c6
   have c6b1 : (a0_0 != a1_0) = false := bne_eq_false_iff_eq.mpr c6
   clear c6
   (first | rw [c6b0] | (simp only [i64_w, i32_w]; rw [c6b0]) | skip)
   by_cases c7 : (strOfNums l0_1).toList = (strOfNums l1_1).toList
   ·rw [if_pos c7] at H
    have c7b0 : ((strOfNums l0_1).toList == (strOfNums l1_1).toList) = true := beq_iff_eq.mpr c7
    have c7b1 : ((strOfNums l0_1).toList != (strOfNums l1_1).toList) = false := bne_eq_false_iff_eq.mpr c7
    clear c7
    have H' := Aside0.mk H
    clear H
    have hnb8 := NB269_270.out
    have hnc8 := NB270_269.out
    have hcz9_0 : w5.cell? ⟨gb269, 0, none⟩ = some (.int .i64 a0_0) := (blk_cell BK269.out 0).trans rfl
    have hcz9_1 : w5.cell? ⟨gb269, 1, none⟩ = some (.slice A0_1 l0_1.length c0_1) := (blk_cell BK269.out 1).trans rfl
    have hcz9_2 : w5.cell? ⟨gb269, 2, none⟩ = some (.slice A0_2 l0_2.length c0_2) := (blk_cell BK269.out 2).trans rfl
    have hfz9_0 := blk_frozen BK269.out 0
    have hfz9_1 := blk_frozen BK269.out 1
    have hfz9_2 := blk_frozen BK269.out 2
    have hcz10_0 : w5.cell? ⟨gb270, 0, none⟩ = some (.int .i64 a1_0) := (blk_cell BK270.out 0).trans rfl
    have hcz10_1 : w5.cell? ⟨gb270, 1, none⟩ = some (.slice A1_1 l1_1.length c1_1) := (blk_cell BK270.out 1).trans rfl
    have hcz10_2 : w5.cell? ⟨gb270, 2, none⟩ = some (.slice A1_2 l1_2.length c1_2) := (blk_cell BK270.out 2).trans rfl
    have hfz10_0 := blk_frozen BK270.out 0
    have hfz10_1 := blk_frozen BK270.out 1
    have hfz10_2 := blk_frozen BK270.out 2
    have hcv11 := Kd.C_string (P := Try.prog) (A := A0_1) (c := c0_1) Try.underlying22 Try.underlying5 Try.underlying9 (Kd.C_below HR0_1.out HB.out)
    have hcv12 := Kd.C_string (P := Try.prog) (A := A1_1) (c := c1_1) Try.underlying22 Try.underlying5 Try.underlying9 (Kd.C_below HR1_1.out HB.out)
    go_wp2
    go_meet
    case rel => exact ⟨_, (((l0_2.length : Int) != (l1_2.length : Int))), (by first | rfl | (simp; done) | (simp [*]; done)), H', ⟨by first | omega | exact Nat.le_refl _⟩, ⟨by (with_reducible repeat (first | refine blk_drewN ?_ _ | refine blk_drew ?_ | refine blk_alloc ?_ _)); exact BK269.out⟩, ⟨by (with_reducible repeat (first | refine blk_drewN ?_ _ | refine blk_drew ?_ | refine blk_alloc ?_ _)); exact BK270.out⟩, ⟨by repeat (first | (with_reducible first | exact HB.out | apply below_alloc | apply pw_below_drewN | apply below_drew1 | refine below_set ?_ GE269.out | refine below_set ?_ GE270.out) | exact HB.out)⟩⟩
   ·rw [if_neg c7] at H
    have c7b0 : ((strOfNums l0_1).toList == (strOfNums l1_1).toList) = false := beq_eq_false_iff_ne.mpr c7
    have c7b1 : ((strOfNums l0_1).toList != (strOfNums l1_1).toList) = true := bne_iff_ne.mpr c7
    have H' := Aside0.mk H
    clear H
    have hnb13 := NB269_270.out
    have hnc13 := NB270_269.out
    have hcz14_0 : w5.cell? ⟨gb269, 0, none⟩ = some (.int .i64 a0_0) := (blk_cell BK269.out 0).trans rfl
    have hcz14_1 : w5.cell? ⟨gb269, 1, none⟩ = some (.slice A0_1 l0_1.length c0_1) := (blk_cell BK269.out 1).trans rfl
    have hcz14_2 : w5.cell? ⟨gb269, 2, none⟩ = some (.slice A0_2 l0_2.length c0_2) := (blk_cell BK269.out 2).trans rfl
    have hfz14_0 := blk_frozen BK269.out 0
    have hfz14_1 := blk_frozen BK269.out 1
    have hfz14_2 := blk_frozen BK269.out 2
    have hcz15_0 : w5.cell? ⟨gb270, 0, none⟩ = some (.int .i64 a1_0) := (blk_cell BK270.out 0).trans rfl
    have hcz15_1 : w5.cell? ⟨gb270, 1, none⟩ = some (.slice A1_1 l1_1.length c1_1) := (blk_cell BK270.out 1).trans rfl
    have hcz15_2 : w5.cell? ⟨gb270, 2, none⟩ = some (.slice A1_2 l1_2.length c1_2) := (blk_cell BK270.out 2).trans rfl
    have hfz15_0 := blk_frozen BK270.out 0
    have hfz15_1 := blk_frozen BK270.out 1
    have hfz15_2 := blk_frozen BK270.out 2
    have hcv16 := Kd.C_string (P := Try.prog) (A := A0_1) (c := c0_1) Try.underlying22 Try.underlying5 Try.underlying9 (Kd.C_below HR0_1.out HB.out)
    have hcv17 := Kd.C_string (P := Try.prog) (A := A1_1) (c := c1_1) Try.underlying22 Try.underlying5 Try.underlying9 (Kd.C_below HR1_1.out HB.out)
    go_wp2
    go_meet
    case rel => exact ⟨_, (true), (by first | rfl | (simp; done) | (simp [*]; done)), H', ⟨by first | omega | exact Nat.le_refl _⟩, ⟨by (with_reducible repeat (first | refine blk_drewN ?_ _ | refine blk_drew ?_ | refine blk_alloc ?_ _)); exact BK269.out⟩, ⟨by (with_reducible repeat (first | refine blk_drewN ?_ _ | refine blk_drew ?_ | refine blk_alloc ?_ _)); exact BK270.out⟩, ⟨by repeat (first | (with_reducible first | exact HB.out | apply below_alloc | apply pw_below_drewN | apply below_drew1 | refine below_set ?_ GE269.out | refine below_set ?_ GE270.out) | exact HB.out)⟩⟩
  ·rw [if_neg c6] at H
   have c6b0 : (a0_0 == a1_0) = false := beq_eq_false_iff_ne.mpr c6
   have c6b1 : (a0_0 != a1_0) = true := bne_iff_ne.mpr c6
   (first | rw [c6b0] | (simp only [i64_w, i32_w]; rw [c6b0]) | skip)
   have H' := Aside0.mk H
   clear H
   have hnb18 := NB269_270.out
   have hnc18 := NB270_269.out
   have hcz19_0 : w5.cell? ⟨gb269, 0, none⟩ = some (.int .i64 a0_0) := (blk_cell BK269.out 0).trans rfl
   have hcz19_1 : w5.cell? ⟨gb269, 1, none⟩ = some (.slice A0_1 l0_1.length c0_1) := (blk_cell BK269.out 1).trans rfl
   have hcz19_2 : w5.cell? ⟨gb269, 2, none⟩ = some (.slice A0_2 l0_2.length c0_2) := (blk_cell BK269.out 2).trans rfl
   have hfz19_0 := blk_frozen BK269.out 0
   have hfz19_1 := blk_frozen BK269.out 1
   have hfz19_2 := blk_frozen BK269.out 2
   have hcz20_0 : w5.cell? ⟨gb270, 0, none⟩ = some (.int .i64 a1_0) := (blk_cell BK270.out 0).trans rfl
   have hcz20_1 : w5.cell? ⟨gb270, 1, none⟩ = some (.slice A1_1 l1_1.length c1_1) := (blk_cell BK270.out 1).trans rfl
   have hcz20_2 : w5.cell? ⟨gb270, 2, none⟩ = some (.slice A1_2 l1_2.length c1_2) := (blk_cell BK270.out 2).trans rfl
   have hfz20_0 := blk_frozen BK270.out 0
   have hfz20_1 := blk_frozen BK270.out 1
   have hfz20_2 := blk_frozen BK270.out 2
   go_wp2
   go_meet
   case rel => exact ⟨_, (true), (by first | rfl | (simp; done) | (simp [*]; done)), H', ⟨by first | omega | exact Nat.le_refl _⟩, ⟨by (with_reducible repeat (first | refine blk_drewN ?_ _ | refine blk_drew ?_ | refine blk_alloc ?_ _)); exact BK269.out⟩, ⟨by (with_reducible repeat (first | refine blk_drewN ?_ _ | refine blk_drew ?_ | refine blk_alloc ?_ _)); exact BK270.out⟩, ⟨by repeat (first | (with_reducible first | exact HB.out | apply below_alloc | apply pw_below_drewN | apply below_drew1 | refine below_set ?_ GE269.out | refine below_set ?_ GE270.out) | exact HB.out)⟩⟩
 case rest =>
  clear HC3
  try clear c1
  try clear hcv1
  try clear p2
  try clear c6
  try clear c6b0
  try clear c6b1
  try clear c7
  try clear c7b0
  try clear c7b1
  try clear c8
  try clear c11
  try clear hcv11
  try clear hcv12
  try clear c13
  try clear hcv16
  try clear hcv17
  try clear c18
  try clear hcz10_0
  try clear hcz10_1
  try clear hcz10_2
  try clear hcz14_0
  try clear hcz14_1
  try clear hcz14_2
  try clear hcz15_0
  try clear hcz15_1
  try clear hcz15_2
  try clear hcz19_0
  try clear hcz19_1
  try clear hcz19_2
  try clear hcz20_0
  try clear hcz20_1
  try clear hcz20_2
  try clear hcz9_0
  try clear hcz9_1
  try clear hcz9_2
  try clear hfz10_0
  try clear hfz10_1
  try clear hfz10_2
  try clear hfz14_0
  try clear hfz14_1
  try clear hfz14_2
  try clear hfz15_0
  try clear hfz15_1
  try clear hfz15_2
  try clear hfz19_0
  try clear hfz19_1
  try clear hfz19_2
  try clear hfz20_0
  try clear hfz20_1
  try clear hfz20_2
  try clear hfz9_0
  try clear hfz9_1
  try clear hfz9_2
  obtain ⟨kq, x28_2, rfl, HA, HJ2, BK269, BK270, HB⟩ := hcut
  cases kq with
  | zero => exact absurd HA.out (by simp [lanyardref04_Same.j0])
  | succ kj2 =>
   have H := HA.out
   clear HA
   simp only [lanyardref04_Same.j0] at H
   by_cases c21 : x28_2 = true
   ·subst c21
    have H1 : (some false) = some r := by rw [if_pos rfl] at H; exact H
    clear H
    have H := H1
    clear H1
    obtain rfl := Option.some.inj H
    go_wp2
    go_ret
    exact ⟨by first | rfl | (simp [errW_none, errW_some] <;> rfl) | (simp [*, errW_none, errW_some] <;> rfl), by repeat (first | (with_reducible first | exact HB.out | apply below_alloc | apply pw_below_drewN | apply below_drew1 | refine below_set ?_ GE269.out | refine below_set ?_ GE270.out) | exact HB.out)⟩
   ·replace c21 := Bool.eq_false_iff.mpr c21
    subst c21
    have H1 : (lanyardref04_Same.l0 kj2 0 a0_0 l0_1 l0_2 a1_0 l1_1 l1_2) = some r := by rw [if_neg (show ¬ (false = true) by decide)] at H; exact H
    clear H
    have H := H1
    clear H1
    have H' := Aside0.mk H
    clear H
    go_wp2
    go_loopg [5] kj2 (fun kq v5 w' => ∃ (x5_2 : Int), v5 = .int .i64 x5_2 ∧ Aside0 (lanyardref04_Same.l0 kq x5_2 a0_0 l0_1 l0_2 a1_0 l1_1 l1_2 = some r) ∧ Aside0 (kq ≤ kj2) ∧ Aside0 (w'.heap[gb269]? = some (.cells #[.int .i64 a0_0, (.slice A0_1 l0_1.length c0_1), (.slice A0_2 l0_2.length c0_2)] 25 (0, 0))) ∧ Aside0 (w'.heap[gb270]? = some (.cells #[.int .i64 a1_0, (.slice A1_1 l1_1.length c1_1), (.slice A1_2 l1_2.length c1_2)] 25 (0, 0))) ∧ Aside0 (Below w.heap.size w w'))
    case atStart => exact ⟨(0), (by first | rfl | (simp; done) | (simp [*]; done)), H', ⟨Nat.le_refl _⟩, ⟨by (with_reducible repeat (first | refine blk_drewN ?_ _ | refine blk_drew ?_ | refine blk_alloc ?_ _)); exact BK269.out⟩, ⟨by (with_reducible repeat (first | refine blk_drewN ?_ _ | refine blk_drew ?_ | refine blk_alloc ?_ _)); exact BK270.out⟩, ⟨by repeat (first | (with_reducible first | exact HB.out | apply below_alloc | apply pw_below_drewN | apply below_drew1 | refine below_set ?_ GE269.out | refine below_set ?_ GE270.out) | exact HB.out)⟩⟩
    case round =>
     clear H'
     try clear c1
     try clear hcv1
     try clear c2
     try clear p2
     try clear c6
     try clear c6b0
     try clear c6b1
     try clear c7
     try clear c7b0
     try clear c7b1
     try clear c8
     try clear c11
     try clear hcv11
     try clear hcv12
     try clear c13
     try clear hcv16
     try clear hcv17
     try clear c18
     try clear c21
     try clear hcz10_0
     try clear hcz10_1
     try clear hcz10_2
     try clear hcz14_0
     try clear hcz14_1
     try clear hcz14_2
     try clear hcz15_0
     try clear hcz15_1
     try clear hcz15_2
     try clear hcz19_0
     try clear hcz19_1
     try clear hcz19_2
     try clear hcz20_0
     try clear hcz20_1
     try clear hcz20_2
     try clear hcz9_0
     try clear hcz9_1
     try clear hcz9_2
     try clear hfz10_0
     try clear hfz10_1
     try clear hfz10_2
     try clear hfz14_0
     try clear hfz14_1
     try clear hfz14_2
     try clear hfz15_0
     try clear hfz15_1
     try clear hfz15_2
     try clear hfz19_0
     try clear hfz19_1
     try clear hfz19_2
     try clear hfz20_0
     try clear hfz20_1
     try clear hfz20_2
     try clear hfz9_0
     try clear hfz9_1
     try clear hfz9_2
     try clear p2
     obtain ⟨x5_2, rfl, HA, HK2, BK269, BK270, HB⟩ := hrel
     cases gk with
     | zero => exact absurd HA.out (by simp [lanyardref04_Same.l0])
     | succ k2 =>
      have H := HA.out
      clear HA
      simp only [lanyardref04_Same.l0] at H
      by_cases c22 : x5_2 < (l0_2.length : Int)
      ·rw [if_pos c22] at H
       have c22b0 : decide (x5_2 < (l0_2.length : Int)) = true := decide_eq_true c22
       clear c22
       by_cases c23 : 0 ≤ x5_2
       ·rw [if_pos c23] at H
        have c23b0 : decide (0 ≤ x5_2) = true := decide_eq_true c23
        clear c23
        by_cases c24 : x5_2 < (l1_2.length : Int)
        ·rw [if_pos c24] at H
         have c24b0 : decide (x5_2 < (l1_2.length : Int)) = true := decide_eq_true c24
         clear c24
         replace H := Option.bind_eq_some_iff.mp H
         obtain ⟨t273, A250, H⟩ := H
         replace H : (if t273 = true then (lanyardref04_Same.l0 k2 (wrap64 (x5_2 + 1)) a0_0 l0_1 l0_2 a1_0 l1_1 l1_2) else (some false)) = some r := H
         have A25 := Aside0.mk A250
         clear A250
         by_cases c26 : t273 = true
         ·subst c26
          have H1 : (lanyardref04_Same.l0 k2 (wrap64 (x5_2 + 1)) a0_0 l0_1 l0_2 a1_0 l1_1 l1_2) = some r := by rw [if_pos rfl] at H; exact H
          clear H
          have H := H1
          clear H1
          have H' := Aside0.mk H
          clear H
          have hnb27 := NB269_270.out
          have hnc27 := NB270_269.out
          have hcz28_0 : wr.cell? ⟨gb269, 0, none⟩ = some (.int .i64 a0_0) := (blk_cell BK269.out 0).trans rfl
          have hcz28_1 : wr.cell? ⟨gb269, 1, none⟩ = some (.slice A0_1 l0_1.length c0_1) := (blk_cell BK269.out 1).trans rfl
          have hcz28_2 : wr.cell? ⟨gb269, 2, none⟩ = some (.slice A0_2 l0_2.length c0_2) := (blk_cell BK269.out 2).trans rfl
          have hfz28_0 := blk_frozen BK269.out 0
          have hfz28_1 := blk_frozen BK269.out 1
          have hfz28_2 := blk_frozen BK269.out 2
          try go_wp2
          have n0_ := Aside0.mk (blk_drew BK269.out)
          have n1_ := Aside0.mk (blk_drew BK270.out)
          have n2_ := Aside0.mk (below_drew1 HB.out)
          clear BK269
          clear BK270
          clear HB
          have BK269 := n0_
          have BK270 := n1_
          have HB := n2_
          clear n0_ n1_ n2_
          have p271 : 0 ≤ (x5_2 : Int) := of_decide_eq_true (by first | (with_reducible assumption) | assumption)
          have q271 : x5_2 < (l0_2.length : Int) := of_decide_eq_true (by first | (with_reducible assumption) | assumption)
          obtain ⟨ad271, A271_1, c271_1, A271_2, c271_2, e271, hx271_0, hx271_1, hx271_2, hl271_1, hi271_1, hl271_2, hi271_2⟩ := at_T25 HR0_2.out x5_2 p271 q271
          have hw271_2 := hx271_2
          have hw271_1 := hx271_1
          have hw271_0 := hx271_0
          cases e271
          replace hx271_0 := (HB.out.cell (World.block_lt_of_cell? w _ hx271_0)).trans hx271_0
          replace hx271_1 := (HB.out.cell (World.block_lt_of_cell? w _ hx271_1)).trans hx271_1
          replace hx271_2 := (HB.out.cell (World.block_lt_of_cell? w _ hx271_2)).trans hx271_2
          have HR271_1 := Aside0.mk hi271_1
          have HC271_1 := Aside0.mk hl271_1
          clear hi271_1 hl271_1
          have HR271_2 := Aside0.mk hi271_2
          have HC271_2 := Aside0.mk hl271_2
          clear hi271_2 hl271_2
          replace p271 := eq_true p271
          replace q271 := eq_true q271
          have p272 : 0 ≤ (x5_2 : Int) := of_decide_eq_true (by first | (with_reducible assumption) | assumption)
          have q272 : x5_2 < (l1_2.length : Int) := of_decide_eq_true (by first | (with_reducible assumption) | assumption)
          obtain ⟨ad272, A272_1, c272_1, A272_2, c272_2, e272, hx272_0, hx272_1, hx272_2, hl272_1, hi272_1, hl272_2, hi272_2⟩ := at_T25 HR1_2.out x5_2 p272 q272
          have hw272_2 := hx272_2
          have hw272_1 := hx272_1
          have hw272_0 := hx272_0
          cases e272
          replace hx272_0 := (HB.out.cell (World.block_lt_of_cell? w _ hx272_0)).trans hx272_0
          replace hx272_1 := (HB.out.cell (World.block_lt_of_cell? w _ hx272_1)).trans hx272_1
          replace hx272_2 := (HB.out.cell (World.block_lt_of_cell? w _ hx272_2)).trans hx272_2
          have HR272_1 := Aside0.mk hi272_1
          have HC272_1 := Aside0.mk hl272_1
          clear hi272_1 hl272_1
          have HR272_2 := Aside0.mk hi272_2
          have HC272_2 := Aside0.mk hl272_2
          clear hi272_2 hl272_2
          replace p272 := eq_true p272
          replace q272 := eq_true q272
          refine start_ (n := 12) (S := fun w' => w'.cell? ⟨gb269, 0, none⟩ = some (.int .i64 a0_0) ∧ w'.cell? ⟨gb269, 1, none⟩ = some (.slice A0_1 l0_1.length c0_1) ∧ w'.cell? ⟨gb269, 2, none⟩ = some (.slice (some ad271) l0_2.length c0_2) ∧ w'.cell? ⟨gb270, 0, none⟩ = some (.int .i64 a1_0) ∧ w'.cell? ⟨gb270, 1, none⟩ = some (.slice A1_1 l1_1.length c1_1) ∧ w'.cell? ⟨gb270, 2, none⟩ = some (.slice (some ad272) l1_2.length c1_2) ∧ w'.cell? (ad271.add ((x5_2).toNat * 3)) = some (.int .i64 ((rd_T25 l0_2 x5_2).f0)) ∧ w'.cell? ⟨(ad271.add ((x5_2).toNat * 3)).block, (ad271.add ((x5_2).toNat * 3)).off + 1, none⟩ = some (.slice A271_1 ((rd_T25 l0_2 x5_2).f1).length c271_1) ∧ w'.cell? ⟨(ad271.add ((x5_2).toNat * 3)).block, (ad271.add ((x5_2).toNat * 3)).off + 2, none⟩ = some (.slice A271_2 ((rd_T25 l0_2 x5_2).f2).length c271_2) ∧ w'.cell? (ad272.add ((x5_2).toNat * 3)) = some (.int .i64 ((rd_T25 l1_2 x5_2).f0)) ∧ w'.cell? ⟨(ad272.add ((x5_2).toNat * 3)).block, (ad272.add ((x5_2).toNat * 3)).off + 1, none⟩ = some (.slice A272_1 ((rd_T25 l1_2 x5_2).f1).length c272_1) ∧ w'.cell? ⟨(ad272.add ((x5_2).toNat * 3)).block, (ad272.add ((x5_2).toNat * 3)).off + 2, none⟩ = some (.slice A272_2 ((rd_T25 l1_2 x5_2).f2).length c272_2)) (ds := []) #[false, false, false, false, false, false, false, false, false, false, false, false] (by kernel_rfl) rfl rfl ⟨(blk_cell BK269.out 0).trans rfl, (blk_cell BK269.out 1).trans rfl, (blk_cell BK269.out 2).trans rfl, (blk_cell BK270.out 0).trans rfl, (blk_cell BK270.out 1).trans rfl, (blk_cell BK270.out 2).trans rfl, ((HB.out.cell (World.block_lt_of_cell? w _ hw271_0)).trans hw271_0), ((HB.out.cell (World.block_lt_of_cell? w _ hw271_1)).trans hw271_1), ((HB.out.cell (World.block_lt_of_cell? w _ hw271_2)).trans hw271_2), ((HB.out.cell (World.block_lt_of_cell? w _ hw272_0)).trans hw272_0), ((HB.out.cell (World.block_lt_of_cell? w _ hw272_1)).trans hw272_1), ((HB.out.cell (World.block_lt_of_cell? w _ hw272_2)).trans hw272_2)⟩ (fun hHeld => ?_); refine with_tabW lanyardref04_Same.tab6 lanyardref04_Same.bits6 (fun HT_ HW_ => ?_)
          generalize wr.drew = w29 at BK269 BK270 HB HR271_1 HR271_2 HR272_1 HR272_2 hx271_0 hx271_1 hx271_2 hx272_0 hx272_1 hx272_2 hHeld ⊢
          refine pure_ (i := 0) (N := some 36) (v := ?_) (a' := ?_) #[true, false, false, false, false, false, false, false, false, false, false, false] rfl rfl (any_of HT_.out (by kernel_rfl)) (fun _ _ _ h => h) (Or.inl ⟨by rfl, ?_⟩) ?_ ?_
          rotate_left
          ·intro w'
           go_simp
           with_reducible rfl
          rotate_left
          ·simp only [Act.put, List.setIfInBounds_toArray, List.set_cons_zero, List.set_cons_succ, i64_w, i32_w]
           rfl
          refine pure_ (i := 2) (N := some 38) (v := ?_) (a' := ?_) #[true, false, true, false, false, false, false, false, false, false, false, false] rfl rfl (any_of HT_.out (by kernel_rfl)) (fun _ _ _ h => h) (Or.inl ⟨by rfl, ?_⟩) ?_ ?_
          rotate_left
          ·intro w'
           go_simp
           with_reducible rfl
          rotate_left
          ·simp only [Act.put, List.setIfInBounds_toArray, List.set_cons_zero, List.set_cons_succ, i64_w, i32_w]
           rfl
          refine pure_ (i := 5) (N := some 41) (v := ?_) (a' := ?_) #[true, false, true, false, false, true, false, false, false, false, false, false] rfl rfl (any_of HT_.out (by kernel_rfl)) (fun _ _ _ h => h) (Or.inl ⟨by rfl, ?_⟩) ?_ ?_
          rotate_left
          ·intro w'
           go_simp
           with_reducible rfl
          rotate_left
          ·simp only [Act.put, List.setIfInBounds_toArray, List.set_cons_zero, List.set_cons_succ, i64_w, i32_w]
           rfl
          refine pure_ (i := 7) (N := some 43) (v := ?_) (a' := ?_) #[true, false, true, false, false, true, false, true, false, false, false, false] rfl rfl (any_of HT_.out (by kernel_rfl)) (fun _ _ _ h => h) (Or.inl ⟨by rfl, ?_⟩) ?_ ?_
          rotate_left
          ·intro w'
           go_simp
           with_reducible rfl
          rotate_left
          ·simp only [Act.put, List.setIfInBounds_toArray, List.set_cons_zero, List.set_cons_succ, i64_w, i32_w]
           rfl
          refine take_ (i := 1) (N := some 37) (v := ?_) (a' := ?_) #[true, true, true, false, false, true, false, true, false, false, false, false] rfl rfl (take_ofW HT_.out HW_.out (by kernel_rfl)) (fun _ _ _ h => h) (Or.inl ⟨by rfl, ?_⟩) hHeld ?_ ?_
          rotate_left
          ·rintro w' ⟨s0, s1, s2, s3, s4, s5, s6, s7, s8, s9, s10, s11⟩
           go_simp
           with_reducible rfl
          rotate_left
          ·simp only [Act.put, List.setIfInBounds_toArray, List.set_cons_zero, List.set_cons_succ, i64_w, i32_w]
           rfl
          refine pure_ (i := 3) (N := some 39) (v := ?_) (a' := ?_) #[true, true, true, true, false, true, false, true, false, false, false, false] rfl rfl (any_of HT_.out (by kernel_rfl)) (fun _ _ _ h => h) (Or.inl ⟨by rfl, ?_⟩) ?_ ?_
          rotate_left
          ·intro w'
           go_simp
           with_reducible rfl
          rotate_left
          ·simp only [Act.put, List.setIfInBounds_toArray, List.set_cons_zero, List.set_cons_succ, i64_w, i32_w]
           rfl
          refine take_ (i := 4) (N := some 40) (v := ?_) (a' := ?_) #[true, true, true, true, true, true, false, true, false, false, false, false] rfl rfl (take_ofW HT_.out HW_.out (by kernel_rfl)) (fun _ _ _ h => h) (Or.inl ⟨by rfl, ?_⟩) hHeld ?_ ?_
          rotate_left
          ·rintro w' ⟨s0, s1, s2, s3, s4, s5, s6, s7, s8, s9, s10, s11⟩
           go_simp
           with_reducible rfl
          rotate_left
          ·simp only [Act.put, List.setIfInBounds_toArray, List.set_cons_zero, List.set_cons_succ, i64_w, i32_w]
           rfl
          refine take_ (i := 6) (N := some 42) (v := ?_) (a' := ?_) #[true, true, true, true, true, true, true, true, false, false, false, false] rfl rfl (take_ofW HT_.out HW_.out (by kernel_rfl)) (fun _ _ _ h => h) (Or.inl ⟨by rfl, ?_⟩) hHeld ?_ ?_
          rotate_left
          ·rintro w' ⟨s0, s1, s2, s3, s4, s5, s6, s7, s8, s9, s10, s11⟩
           go_simp
           with_reducible rfl
          rotate_left
          ·simp only [Act.put, List.setIfInBounds_toArray, List.set_cons_zero, List.set_cons_succ, i64_w, i32_w]
           rfl
          refine pure_ (i := 8) (N := some 44) (v := ?_) (a' := ?_) #[true, true, true, true, true, true, true, true, true, false, false, false] rfl rfl (any_of HT_.out (by kernel_rfl)) (fun _ _ _ h => h) (Or.inl ⟨by rfl, ?_⟩) ?_ ?_
          rotate_left
          ·intro w'
           go_simp
           with_reducible rfl
          rotate_left
          ·simp only [Act.put, List.setIfInBounds_toArray, List.set_cons_zero, List.set_cons_succ, i64_w, i32_w]
           rfl
          refine take_ (i := 9) (N := some 45) (v := ?_) (a' := ?_) #[true, true, true, true, true, true, true, true, true, true, false, false] rfl rfl (take_ofW HT_.out HW_.out (by kernel_rfl)) (fun _ _ _ h => h) (Or.inl ⟨by rfl, ?_⟩) hHeld ?_ ?_
          rotate_left
          ·rintro w' ⟨s0, s1, s2, s3, s4, s5, s6, s7, s8, s9, s10, s11⟩
           go_simp
           with_reducible rfl
          rotate_left
          ·simp only [Act.put, List.setIfInBounds_toArray, List.set_cons_zero, List.set_cons_succ, i64_w, i32_w]
           rfl
          refine one_ (i := 10) (N := some 46) #[true, true, true, true, true, true, true, true, true, true, true, false] rfl rfl (one_of HT_.out (by kernel_rfl)) (by decide) (fun K hK => ?_)
          refine goes_ Try.func11 (by kernel_rfl) rfl #[.agg #[.int .i64 ((rd_T25 l0_2 x5_2).f0), .slice A271_1 ((rd_T25 l0_2 x5_2).f1).length c271_1, .slice A271_2 ((rd_T25 l0_2 x5_2).f2).length c271_2], .agg #[.int .i64 ((rd_T25 l1_2 x5_2).f0), .slice A272_1 ((rd_T25 l1_2 x5_2).f1).length c272_1, .slice A272_2 ((rd_T25 l1_2 x5_2).f2).length c272_2]] (by rfl) rfl rfl (by (try simp only [List.map_toArray, List.map_cons, List.map_nil]); first | done | rfl | (simp only [List.length_drop, List.length_take]; rfl)) ?_
          with_reducible refine (ih k2 (by have := HJ2.out; have := HK2.out; omega) ((rd_T25 l0_2 x5_2).f0) _ _ ((rd_T25 l0_2 x5_2).f1) _ _ ((rd_T25 l0_2 x5_2).f2) ((rd_T25 l1_2 x5_2).f0) _ _ ((rd_T25 l1_2 x5_2).f1) _ _ ((rd_T25 l1_2 x5_2).f2) true _ ?side1 ?side2 ?side3 ?side4 ?side5 ?side6 ?side7 ?side8 A25.out).mono ?_
          (case side1 => repeat (first | exact (Kd.C_below HR271_1.out HB.out) | (with_reducible refine Kd.C_alloc ?_ _) | (with_reducible refine Kd.C_drewN ?_ _) | (with_reducible refine Kd.C_drew ?_)))
          (case side2 => exact HC271_1.out)
          (case side3 => repeat (first | exact (Kd.C_below HR271_2.out HB.out) | (with_reducible refine Kd.C_alloc ?_ _) | (with_reducible refine Kd.C_drewN ?_ _) | (with_reducible refine Kd.C_drew ?_)))
          (case side4 => exact HC271_2.out)
          (case side5 => repeat (first | exact (Kd.C_below HR272_1.out HB.out) | (with_reducible refine Kd.C_alloc ?_ _) | (with_reducible refine Kd.C_drewN ?_ _) | (with_reducible refine Kd.C_drew ?_)))
          (case side6 => exact HC272_1.out)
          (case side7 => repeat (first | exact (Kd.C_below HR272_2.out HB.out) | (with_reducible refine Kd.C_alloc ?_ _) | (with_reducible refine Kd.C_drewN ?_ _) | (with_reducible refine Kd.C_drew ?_)))
          (case side8 => exact HC272_2.out)
          rintro e w30 ⟨rfl, hb⟩
          refine ⟨_, rfl, ?_⟩
          have n0_ := Aside0.mk (blk_below (g := gb269) (o := .cells #[.int .i64 a0_0, .slice A0_1 l0_1.length c0_1, .slice (some ad271) l0_2.length c0_2] 25 (0, 0)) (by (with_reducible repeat (first | refine blk_drewN ?_ _ | refine blk_drew ?_ | refine blk_alloc ?_ _)); exact BK269.out) hb)
          have n1_ := Aside0.mk (blk_below (g := gb270) (o := .cells #[.int .i64 a1_0, .slice A1_1 l1_1.length c1_1, .slice (some ad272) l1_2.length c1_2] 25 (0, 0)) (by (with_reducible repeat (first | refine blk_drewN ?_ _ | refine blk_drew ?_ | refine blk_alloc ?_ _)); exact BK270.out) hb)
          have n2_ := Aside0.mk (below_step (by repeat (first | (with_reducible first | exact HB.out | apply below_alloc | apply pw_below_drewN | apply below_drew1 | refine below_set ?_ GE269.out | refine below_set ?_ GE270.out) | exact HB.out)) hb)
          clear BK269
          clear BK270
          clear HB
          have BK269 := n0_
          have BK270 := n1_
          have HB := n2_
          clear n0_ n1_ n2_
          (try clear hb)
          (try clear hb2)
          (try clear hk)
          (try clear hi)
          refine hK.out _ _ ⟨(blk_cell BK269.out 0).trans rfl, (blk_cell BK269.out 1).trans rfl, (blk_cell BK269.out 2).trans rfl, (blk_cell BK270.out 0).trans rfl, (blk_cell BK270.out 1).trans rfl, (blk_cell BK270.out 2).trans rfl, ((HB.out.cell (World.block_lt_of_cell? w _ hw271_0)).trans hw271_0), ((HB.out.cell (World.block_lt_of_cell? w _ hw271_1)).trans hw271_1), ((HB.out.cell (World.block_lt_of_cell? w _ hw271_2)).trans hw271_2), ((HB.out.cell (World.block_lt_of_cell? w _ hw272_0)).trans hw272_0), ((HB.out.cell (World.block_lt_of_cell? w _ hw272_1)).trans hw272_1), ((HB.out.cell (World.block_lt_of_cell? w _ hw272_2)).trans hw272_2)⟩ (fun hHeld => ?_)
          clear hK K
          refine norm_ (a' := ?_) ?_ ?_
          rotate_left
          ·show Act.put _ (some 46) _ = _
           simp only [Act.put, List.setIfInBounds_toArray, List.set_cons_zero, List.set_cons_succ, i64_w, i32_w]
           rfl
          refine pure_ (i := 11) (N := some 47) (v := ?_) (a' := ?_) #[true, true, true, true, true, true, true, true, true, true, true, true] rfl rfl (any_of HT_.out (by kernel_rfl)) (fun _ _ _ h => h) (Or.inl ⟨by rfl, ?_⟩) ?_ ?_
          rotate_left
          ·intro w'
           go_simp
           with_reducible rfl
          rotate_left
          ·simp only [Act.put, List.setIfInBounds_toArray, List.set_cons_zero, List.set_cons_succ, i64_w, i32_w]
           rfl
          refine done_ (done_of HT_.out (by kernel_rfl)) ?_
          try go_wp2
          go_roundg k2
          case measure => have := HJ2.out; have := HK2.out; omega
          case rel => exact ⟨(wrap64 (x5_2 + 1)), (by first | rfl | (simp; done) | (simp [*]; done)), H', ⟨by have := HJ2.out; have := HK2.out; omega⟩, ⟨by (with_reducible repeat (first | refine blk_drewN ?_ _ | refine blk_drew ?_ | refine blk_alloc ?_ _)); exact BK269.out⟩, ⟨by (with_reducible repeat (first | refine blk_drewN ?_ _ | refine blk_drew ?_ | refine blk_alloc ?_ _)); exact BK270.out⟩, ⟨by repeat (first | (with_reducible first | exact HB.out | apply below_alloc | apply pw_below_drewN | apply below_drew1 | refine below_set ?_ GE269.out | refine below_set ?_ GE270.out) | exact HB.out)⟩⟩
         ·replace c26 := Bool.eq_false_iff.mpr c26
          subst c26
          have H1 : (some false) = some r := by rw [if_neg (show ¬ (false = true) by decide)] at H; exact H
          clear H
          have H := H1
          clear H1
          obtain rfl := Option.some.inj H
          have hnb31 := NB269_270.out
          have hnc31 := NB270_269.out
          have hcz32_0 : wr.cell? ⟨gb269, 0, none⟩ = some (.int .i64 a0_0) := (blk_cell BK269.out 0).trans rfl
          have hcz32_1 : wr.cell? ⟨gb269, 1, none⟩ = some (.slice A0_1 l0_1.length c0_1) := (blk_cell BK269.out 1).trans rfl
          have hcz32_2 : wr.cell? ⟨gb269, 2, none⟩ = some (.slice A0_2 l0_2.length c0_2) := (blk_cell BK269.out 2).trans rfl
          have hfz32_0 := blk_frozen BK269.out 0
          have hfz32_1 := blk_frozen BK269.out 1
          have hfz32_2 := blk_frozen BK269.out 2
          try go_wp2
          have n0_ := Aside0.mk (blk_drew BK269.out)
          have n1_ := Aside0.mk (blk_drew BK270.out)
          have n2_ := Aside0.mk (below_drew1 HB.out)
          clear BK269
          clear BK270
          clear HB
          have BK269 := n0_
          have BK270 := n1_
          have HB := n2_
          clear n0_ n1_ n2_
          have p271 : 0 ≤ (x5_2 : Int) := of_decide_eq_true (by first | (with_reducible assumption) | assumption)
          have q271 : x5_2 < (l0_2.length : Int) := of_decide_eq_true (by first | (with_reducible assumption) | assumption)
          obtain ⟨ad271, A271_1, c271_1, A271_2, c271_2, e271, hx271_0, hx271_1, hx271_2, hl271_1, hi271_1, hl271_2, hi271_2⟩ := at_T25 HR0_2.out x5_2 p271 q271
          have hw271_2 := hx271_2
          have hw271_1 := hx271_1
          have hw271_0 := hx271_0
          cases e271
          replace hx271_0 := (HB.out.cell (World.block_lt_of_cell? w _ hx271_0)).trans hx271_0
          replace hx271_1 := (HB.out.cell (World.block_lt_of_cell? w _ hx271_1)).trans hx271_1
          replace hx271_2 := (HB.out.cell (World.block_lt_of_cell? w _ hx271_2)).trans hx271_2
          have HR271_1 := Aside0.mk hi271_1
          have HC271_1 := Aside0.mk hl271_1
          clear hi271_1 hl271_1
          have HR271_2 := Aside0.mk hi271_2
          have HC271_2 := Aside0.mk hl271_2
          clear hi271_2 hl271_2
          replace p271 := eq_true p271
          replace q271 := eq_true q271
          have p272 : 0 ≤ (x5_2 : Int) := of_decide_eq_true (by first | (with_reducible assumption) | assumption)
          have q272 : x5_2 < (l1_2.length : Int) := of_decide_eq_true (by first | (with_reducible assumption) | assumption)
          obtain ⟨ad272, A272_1, c272_1, A272_2, c272_2, e272, hx272_0, hx272_1, hx272_2, hl272_1, hi272_1, hl272_2, hi272_2⟩ := at_T25 HR1_2.out x5_2 p272 q272
          have hw272_2 := hx272_2
          have hw272_1 := hx272_1
          have hw272_0 := hx272_0
          cases e272
          replace hx272_0 := (HB.out.cell (World.block_lt_of_cell? w _ hx272_0)).trans hx272_0
          replace hx272_1 := (HB.out.cell (World.block_lt_of_cell? w _ hx272_1)).trans hx272_1
          replace hx272_2 := (HB.out.cell (World.block_lt_of_cell? w _ hx272_2)).trans hx272_2
          have HR272_1 := Aside0.mk hi272_1
          have HC272_1 := Aside0.mk hl272_1
          clear hi272_1 hl272_1
          have HR272_2 := Aside0.mk hi272_2
          have HC272_2 := Aside0.mk hl272_2
          clear hi272_2 hl272_2
          replace p272 := eq_true p272
          replace q272 := eq_true q272
          refine start_ (n := 12) (S := fun w' => w'.cell? ⟨gb269, 0, none⟩ = some (.int .i64 a0_0) ∧ w'.cell? ⟨gb269, 1, none⟩ = some (.slice A0_1 l0_1.length c0_1) ∧ w'.cell? ⟨gb269, 2, none⟩ = some (.slice (some ad271) l0_2.length c0_2) ∧ w'.cell? ⟨gb270, 0, none⟩ = some (.int .i64 a1_0) ∧ w'.cell? ⟨gb270, 1, none⟩ = some (.slice A1_1 l1_1.length c1_1) ∧ w'.cell? ⟨gb270, 2, none⟩ = some (.slice (some ad272) l1_2.length c1_2) ∧ w'.cell? (ad271.add ((x5_2).toNat * 3)) = some (.int .i64 ((rd_T25 l0_2 x5_2).f0)) ∧ w'.cell? ⟨(ad271.add ((x5_2).toNat * 3)).block, (ad271.add ((x5_2).toNat * 3)).off + 1, none⟩ = some (.slice A271_1 ((rd_T25 l0_2 x5_2).f1).length c271_1) ∧ w'.cell? ⟨(ad271.add ((x5_2).toNat * 3)).block, (ad271.add ((x5_2).toNat * 3)).off + 2, none⟩ = some (.slice A271_2 ((rd_T25 l0_2 x5_2).f2).length c271_2) ∧ w'.cell? (ad272.add ((x5_2).toNat * 3)) = some (.int .i64 ((rd_T25 l1_2 x5_2).f0)) ∧ w'.cell? ⟨(ad272.add ((x5_2).toNat * 3)).block, (ad272.add ((x5_2).toNat * 3)).off + 1, none⟩ = some (.slice A272_1 ((rd_T25 l1_2 x5_2).f1).length c272_1) ∧ w'.cell? ⟨(ad272.add ((x5_2).toNat * 3)).block, (ad272.add ((x5_2).toNat * 3)).off + 2, none⟩ = some (.slice A272_2 ((rd_T25 l1_2 x5_2).f2).length c272_2)) (ds := []) #[false, false, false, false, false, false, false, false, false, false, false, false] (by kernel_rfl) rfl rfl ⟨(blk_cell BK269.out 0).trans rfl, (blk_cell BK269.out 1).trans rfl, (blk_cell BK269.out 2).trans rfl, (blk_cell BK270.out 0).trans rfl, (blk_cell BK270.out 1).trans rfl, (blk_cell BK270.out 2).trans rfl, ((HB.out.cell (World.block_lt_of_cell? w _ hw271_0)).trans hw271_0), ((HB.out.cell (World.block_lt_of_cell? w _ hw271_1)).trans hw271_1), ((HB.out.cell (World.block_lt_of_cell? w _ hw271_2)).trans hw271_2), ((HB.out.cell (World.block_lt_of_cell? w _ hw272_0)).trans hw272_0), ((HB.out.cell (World.block_lt_of_cell? w _ hw272_1)).trans hw272_1), ((HB.out.cell (World.block_lt_of_cell? w _ hw272_2)).trans hw272_2)⟩ (fun hHeld => ?_); refine with_tabW lanyardref04_Same.tab6 lanyardref04_Same.bits6 (fun HT_ HW_ => ?_)
          generalize wr.drew = w33 at BK269 BK270 HB HR271_1 HR271_2 HR272_1 HR272_2 hx271_0 hx271_1 hx271_2 hx272_0 hx272_1 hx272_2 hHeld ⊢
          refine pure_ (i := 0) (N := some 36) (v := ?_) (a' := ?_) #[true, false, false, false, false, false, false, false, false, false, false, false] rfl rfl (any_of HT_.out (by kernel_rfl)) (fun _ _ _ h => h) (Or.inl ⟨by rfl, ?_⟩) ?_ ?_
          rotate_left
          ·intro w'
           go_simp
           with_reducible rfl
          rotate_left
          ·simp only [Act.put, List.setIfInBounds_toArray, List.set_cons_zero, List.set_cons_succ, i64_w, i32_w]
           rfl
          refine pure_ (i := 2) (N := some 38) (v := ?_) (a' := ?_) #[true, false, true, false, false, false, false, false, false, false, false, false] rfl rfl (any_of HT_.out (by kernel_rfl)) (fun _ _ _ h => h) (Or.inl ⟨by rfl, ?_⟩) ?_ ?_
          rotate_left
          ·intro w'
           go_simp
           with_reducible rfl
          rotate_left
          ·simp only [Act.put, List.setIfInBounds_toArray, List.set_cons_zero, List.set_cons_succ, i64_w, i32_w]
           rfl
          refine pure_ (i := 5) (N := some 41) (v := ?_) (a' := ?_) #[true, false, true, false, false, true, false, false, false, false, false, false] rfl rfl (any_of HT_.out (by kernel_rfl)) (fun _ _ _ h => h) (Or.inl ⟨by rfl, ?_⟩) ?_ ?_
          rotate_left
          ·intro w'
           go_simp
           with_reducible rfl
          rotate_left
          ·simp only [Act.put, List.setIfInBounds_toArray, List.set_cons_zero, List.set_cons_succ, i64_w, i32_w]
           rfl
          refine pure_ (i := 7) (N := some 43) (v := ?_) (a' := ?_) #[true, false, true, false, false, true, false, true, false, false, false, false] rfl rfl (any_of HT_.out (by kernel_rfl)) (fun _ _ _ h => h) (Or.inl ⟨by rfl, ?_⟩) ?_ ?_
          rotate_left
          ·intro w'
           go_simp
           with_reducible rfl
          rotate_left
          ·simp only [Act.put, List.setIfInBounds_toArray, List.set_cons_zero, List.set_cons_succ, i64_w, i32_w]
           rfl
          refine take_ (i := 1) (N := some 37) (v := ?_) (a' := ?_) #[true, true, true, false, false, true, false, true, false, false, false, false] rfl rfl (take_ofW HT_.out HW_.out (by kernel_rfl)) (fun _ _ _ h => h) (Or.inl ⟨by rfl, ?_⟩) hHeld ?_ ?_
          rotate_left
          ·rintro w' ⟨s0, s1, s2, s3, s4, s5, s6, s7, s8, s9, s10, s11⟩
           go_simp
           with_reducible rfl
          rotate_left
          ·simp only [Act.put, List.setIfInBounds_toArray, List.set_cons_zero, List.set_cons_succ, i64_w, i32_w]
           rfl
          refine pure_ (i := 3) (N := some 39) (v := ?_) (a' := ?_) #[true, true, true, true, false, true, false, true, false, false, false, false] rfl rfl (any_of HT_.out (by kernel_rfl)) (fun _ _ _ h => h) (Or.inl ⟨by rfl, ?_⟩) ?_ ?_
          rotate_left
          ·intro w'
           go_simp
           with_reducible rfl
          rotate_left
          ·simp only [Act.put, List.setIfInBounds_toArray, List.set_cons_zero, List.set_cons_succ, i64_w, i32_w]
           rfl
          refine take_ (i := 4) (N := some 40) (v := ?_) (a' := ?_) #[true, true, true, true, true, true, false, true, false, false, false, false] rfl rfl (take_ofW HT_.out HW_.out (by kernel_rfl)) (fun _ _ _ h => h) (Or.inl ⟨by rfl, ?_⟩) hHeld ?_ ?_
          rotate_left
          ·rintro w' ⟨s0, s1, s2, s3, s4, s5, s6, s7, s8, s9, s10, s11⟩
           go_simp
           with_reducible rfl
          rotate_left
          ·simp only [Act.put, List.setIfInBounds_toArray, List.set_cons_zero, List.set_cons_succ, i64_w, i32_w]
           rfl
          refine take_ (i := 6) (N := some 42) (v := ?_) (a' := ?_) #[true, true, true, true, true, true, true, true, false, false, false, false] rfl rfl (take_ofW HT_.out HW_.out (by kernel_rfl)) (fun _ _ _ h => h) (Or.inl ⟨by rfl, ?_⟩) hHeld ?_ ?_
          rotate_left
          ·rintro w' ⟨s0, s1, s2, s3, s4, s5, s6, s7, s8, s9, s10, s11⟩
           go_simp
           with_reducible rfl
          rotate_left
          ·simp only [Act.put, List.setIfInBounds_toArray, List.set_cons_zero, List.set_cons_succ, i64_w, i32_w]
           rfl
          refine pure_ (i := 8) (N := some 44) (v := ?_) (a' := ?_) #[true, true, true, true, true, true, true, true, true, false, false, false] rfl rfl (any_of HT_.out (by kernel_rfl)) (fun _ _ _ h => h) (Or.inl ⟨by rfl, ?_⟩) ?_ ?_
          rotate_left
          ·intro w'
           go_simp
           with_reducible rfl
          rotate_left
          ·simp only [Act.put, List.setIfInBounds_toArray, List.set_cons_zero, List.set_cons_succ, i64_w, i32_w]
           rfl
          refine take_ (i := 9) (N := some 45) (v := ?_) (a' := ?_) #[true, true, true, true, true, true, true, true, true, true, false, false] rfl rfl (take_ofW HT_.out HW_.out (by kernel_rfl)) (fun _ _ _ h => h) (Or.inl ⟨by rfl, ?_⟩) hHeld ?_ ?_
          rotate_left
          ·rintro w' ⟨s0, s1, s2, s3, s4, s5, s6, s7, s8, s9, s10, s11⟩
           go_simp
           with_reducible rfl
          rotate_left
          ·simp only [Act.put, List.setIfInBounds_toArray, List.set_cons_zero, List.set_cons_succ, i64_w, i32_w]
           rfl
          refine one_ (i := 10) (N := some 46) #[true, true, true, true, true, true, true, true, true, true, true, false] rfl rfl (one_of HT_.out (by kernel_rfl)) (by decide) (fun K hK => ?_)
          refine goes_ Try.func11 (by kernel_rfl) rfl #[.agg #[.int .i64 ((rd_T25 l0_2 x5_2).f0), .slice A271_1 ((rd_T25 l0_2 x5_2).f1).length c271_1, .slice A271_2 ((rd_T25 l0_2 x5_2).f2).length c271_2], .agg #[.int .i64 ((rd_T25 l1_2 x5_2).f0), .slice A272_1 ((rd_T25 l1_2 x5_2).f1).length c272_1, .slice A272_2 ((rd_T25 l1_2 x5_2).f2).length c272_2]] (by rfl) rfl rfl (by (try simp only [List.map_toArray, List.map_cons, List.map_nil]); first | done | rfl | (simp only [List.length_drop, List.length_take]; rfl)) ?_
          with_reducible refine (ih k2 (by have := HJ2.out; have := HK2.out; omega) ((rd_T25 l0_2 x5_2).f0) _ _ ((rd_T25 l0_2 x5_2).f1) _ _ ((rd_T25 l0_2 x5_2).f2) ((rd_T25 l1_2 x5_2).f0) _ _ ((rd_T25 l1_2 x5_2).f1) _ _ ((rd_T25 l1_2 x5_2).f2) false _ ?side1 ?side2 ?side3 ?side4 ?side5 ?side6 ?side7 ?side8 A25.out).mono ?_
          (case side1 => repeat (first | exact (Kd.C_below HR271_1.out HB.out) | (with_reducible refine Kd.C_alloc ?_ _) | (with_reducible refine Kd.C_drewN ?_ _) | (with_reducible refine Kd.C_drew ?_)))
          (case side2 => exact HC271_1.out)
          (case side3 => repeat (first | exact (Kd.C_below HR271_2.out HB.out) | (with_reducible refine Kd.C_alloc ?_ _) | (with_reducible refine Kd.C_drewN ?_ _) | (with_reducible refine Kd.C_drew ?_)))
          (case side4 => exact HC271_2.out)
          (case side5 => repeat (first | exact (Kd.C_below HR272_1.out HB.out) | (with_reducible refine Kd.C_alloc ?_ _) | (with_reducible refine Kd.C_drewN ?_ _) | (with_reducible refine Kd.C_drew ?_)))
          (case side6 => exact HC272_1.out)
          (case side7 => repeat (first | exact (Kd.C_below HR272_2.out HB.out) | (with_reducible refine Kd.C_alloc ?_ _) | (with_reducible refine Kd.C_drewN ?_ _) | (with_reducible refine Kd.C_drew ?_)))
          (case side8 => exact HC272_2.out)
          rintro e w34 ⟨rfl, hb⟩
          refine ⟨_, rfl, ?_⟩
          have n0_ := Aside0.mk (blk_below (g := gb269) (o := .cells #[.int .i64 a0_0, .slice A0_1 l0_1.length c0_1, .slice (some ad271) l0_2.length c0_2] 25 (0, 0)) (by (with_reducible repeat (first | refine blk_drewN ?_ _ | refine blk_drew ?_ | refine blk_alloc ?_ _)); exact BK269.out) hb)
          have n1_ := Aside0.mk (blk_below (g := gb270) (o := .cells #[.int .i64 a1_0, .slice A1_1 l1_1.length c1_1, .slice (some ad272) l1_2.length c1_2] 25 (0, 0)) (by (with_reducible repeat (first | refine blk_drewN ?_ _ | refine blk_drew ?_ | refine blk_alloc ?_ _)); exact BK270.out) hb)
          have n2_ := Aside0.mk (below_step (by repeat (first | (with_reducible first | exact HB.out | apply below_alloc | apply pw_below_drewN | apply below_drew1 | refine below_set ?_ GE269.out | refine below_set ?_ GE270.out) | exact HB.out)) hb)
          clear BK269
          clear BK270
          clear HB
          have BK269 := n0_
          have BK270 := n1_
          have HB := n2_
          clear n0_ n1_ n2_
          (try clear hb)
          (try clear hb2)
          (try clear hk)
          (try clear hi)
          refine hK.out _ _ ⟨(blk_cell BK269.out 0).trans rfl, (blk_cell BK269.out 1).trans rfl, (blk_cell BK269.out 2).trans rfl, (blk_cell BK270.out 0).trans rfl, (blk_cell BK270.out 1).trans rfl, (blk_cell BK270.out 2).trans rfl, ((HB.out.cell (World.block_lt_of_cell? w _ hw271_0)).trans hw271_0), ((HB.out.cell (World.block_lt_of_cell? w _ hw271_1)).trans hw271_1), ((HB.out.cell (World.block_lt_of_cell? w _ hw271_2)).trans hw271_2), ((HB.out.cell (World.block_lt_of_cell? w _ hw272_0)).trans hw272_0), ((HB.out.cell (World.block_lt_of_cell? w _ hw272_1)).trans hw272_1), ((HB.out.cell (World.block_lt_of_cell? w _ hw272_2)).trans hw272_2)⟩ (fun hHeld => ?_)
          clear hK K
          refine norm_ (a' := ?_) ?_ ?_
          rotate_left
          ·show Act.put _ (some 46) _ = _
           simp only [Act.put, List.setIfInBounds_toArray, List.set_cons_zero, List.set_cons_succ, i64_w, i32_w]
           rfl
          refine pure_ (i := 11) (N := some 47) (v := ?_) (a' := ?_) #[true, true, true, true, true, true, true, true, true, true, true, true] rfl rfl (any_of HT_.out (by kernel_rfl)) (fun _ _ _ h => h) (Or.inl ⟨by rfl, ?_⟩) ?_ ?_
          rotate_left
          ·intro w'
           go_simp
           with_reducible rfl
          rotate_left
          ·simp only [Act.put, List.setIfInBounds_toArray, List.set_cons_zero, List.set_cons_succ, i64_w, i32_w]
           rfl
          refine done_ (done_of HT_.out (by kernel_rfl)) ?_
          try go_wp2
          go_ret
          exact ⟨by first | rfl | (simp [errW_none, errW_some] <;> rfl) | (simp [*, errW_none, errW_some] <;> rfl), by repeat (first | (with_reducible first | exact HB.out | apply below_alloc | apply pw_below_drewN | apply below_drew1 | refine below_set ?_ GE269.out | refine below_set ?_ GE270.out) | exact HB.out)⟩
        ·rw [if_neg c24] at H
         exact absurd H (by simp)
       ·rw [if_neg c23] at H
        exact absurd H (by simp)
      ·rw [if_neg c22] at H
       have c22b0 : decide (x5_2 < (l0_2.length : Int)) = false := decide_eq_false c22
       clear c22
       obtain rfl := Option.some.inj H
       have hnb35 := NB269_270.out
       have hnc35 := NB270_269.out
       have hcz36_0 : wr.cell? ⟨gb269, 0, none⟩ = some (.int .i64 a0_0) := (blk_cell BK269.out 0).trans rfl
       have hcz36_1 : wr.cell? ⟨gb269, 1, none⟩ = some (.slice A0_1 l0_1.length c0_1) := (blk_cell BK269.out 1).trans rfl
       have hcz36_2 : wr.cell? ⟨gb269, 2, none⟩ = some (.slice A0_2 l0_2.length c0_2) := (blk_cell BK269.out 2).trans rfl
       have hfz36_0 := blk_frozen BK269.out 0
       have hfz36_1 := blk_frozen BK269.out 1
       have hfz36_2 := blk_frozen BK269.out 2
       go_wp2
       go_ret
       exact ⟨by first | rfl | (simp [errW_none, errW_some] <;> rfl) | (simp [*, errW_none, errW_some] <;> rfl), by repeat (first | (with_reducible first | exact HB.out | apply below_alloc | apply pw_below_drewN | apply below_drew1 | refine below_set ?_ GE269.out | refine below_set ?_ GE270.out) | exact HB.out)⟩

end Go.Proofs.Ytmbgjhkemlliaaa.PT
end

/- The reference's Same: what it comes to. -/
section
set_option linter.unusedVariables false
set_option linter.unusedSimpArgs false
namespace Go.Proofs.Ytmbgjhkemlliaaa.Tlv
open Go.RowKit Go.Proofs.YtmbgjhkemlliaaaW.PrintWords Go.Proofs.YtmbgjhkemlliaaaW.PrintLast Go.Proofs.YtmbgjhkemlliaaaW.PrintMore Go.Proofs.Ytmbgjhkemlliaaa.PT

mutual
/-- Are two elements the same? -/
def eqT : T → T → Bool
 | ⟨a, b, c⟩, ⟨x, y, z⟩ => decide (a = x) && eqB b y && eqL c z
def eqL : List T → List T → Bool
 | [], [] => true
 | t :: l, u :: m => eqT t u && eqL l m
 | _, _ => false
end
mutual
theorem eqT_rfl : ∀ t : T, eqT t t = true
 | ⟨a, b, c⟩ => by rw [eqT, eqB_rfl, eqL_rfl c, decide_eq_true rfl]; rfl
theorem eqL_rfl : ∀ l : List T, eqL l l = true
 | [] => by rw [eqL]
 | t :: l => by rw [eqL, eqT_rfl t, eqL_rfl l]; rfl
end
mutual
/-- All bodies are of bytes. -/
def byT : T → Prop
 | ⟨_, b, c⟩ => (∀ v ∈ b, 0 ≤ v ∧ v < 256) ∧ byL c
def byL : List T → Prop
 | [] => True
 | t :: l => byT t ∧ byL l
end
mutual
theorem eqT_eq : ∀ t u : T, byT t → byT u → eqT t u = true → t = u
 | ⟨a, b, c⟩, ⟨x, y, z⟩, h1, h2, h => by
  rw [byT] at h1 h2
  rw [eqT, Bool.and_eq_true, Bool.and_eq_true] at h
  rw [of_decide_eq_true h.1.1, eqB_eq h1.1 h2.1 h.1.2, eqL_eq c z h1.2 h2.2 h.2]
theorem eqL_eq : ∀ l m : List T, byL l → byL m → eqL l m = true → l = m
 | [], [], _, _, _ => rfl
 | [], _ :: _, _, _, h => by simp [eqL] at h
 | _ :: _, [], _, _, h => by simp [eqL] at h
 | t :: l, u :: m, h1, h2, h => by
  rw [byL] at h1 h2
  rw [eqL, Bool.and_eq_true] at h
  rw [eqT_eq t u h1.1 h2.1 h.1, eqL_eq l m h1.2 h2.2 h.2]
end
theorem eqL_len : ∀ l m : List T, l.length ≠ m.length → eqL l m = false
 | [], [], h => absurd rfl h
 | [], _ :: _, _ => by simp [eqL]
 | _ :: _, [], _ => by simp [eqL]
 | t :: l, u :: m, h => by
  rw [eqL, eqL_len l m (fun e => h (by simp [e])), Bool.and_false]
theorem byL_mem {l : List T} (h : byL l) : ∀ t ∈ l, byT t := by
 induction l with
 | nil => intro t ht; cases ht
 | cons u l ih =>
  rw [byL] at h
  intro t ht
  rcases List.mem_cons.1 ht with rfl | ht
  ·exact h.1
  ·exact ih h.2 t ht
theorem byL_of {l : List T} (h : ∀ t ∈ l, byT t) : byL l := by
 induction l with
 | nil => trivial
 | cons u l ih => exact ⟨h u List.mem_cons_self, ih (fun t ht => h t (List.mem_cons_of_mem _ ht))⟩
theorem byT_mk {a : Int} {b : List Int} {c : List T} (h1 : ∀ v ∈ b, 0 ≤ v ∧ v < 256) (h2 : byL c) : byT ⟨a, b, c⟩ := ⟨h1, h2⟩
theorem byT_f1 {t : T} (h : byT t) : ∀ v ∈ t.f1, 0 ≤ v ∧ v < 256 := by obtain ⟨a, b, c⟩ := t; exact h.1
theorem byT_f2 {t : T} (h : byT t) : byL t.f2 := by obtain ⟨a, b, c⟩ := t; exact h.2

theorem sm_up {a : Int} {b : List Int} {c : List T} {x : Int} {y : List Int} {z : List T} {r : Bool} {k : Nat} (h : lanyardref04_Same.f k a b c x y z = some r) : ∀ j, lanyardref04_Same.f (k + j) a b c x y z = some r
 | 0 => h
 | j + 1 => lanyardref04_Same.mono a b c x y z (k + j) r (sm_up h j)
theorem sml_up {i a : Int} {b : List Int} {c : List T} {x : Int} {y : List Int} {z : List T} {r : Bool} {k : Nat} (h : lanyardref04_Same.l0 k i a b c x y z = some r) : ∀ j, lanyardref04_Same.l0 (k + j) i a b c x y z = some r
 | 0 => h
 | j + 1 => (lanyardref04_Same.mono_l (k + j)).2.2 i a b c x y z r (sml_up h j)
def SameC (t : T) : Prop := ∀ u : T, ∃ k, lanyardref04_Same.f k t.f0 t.f1 t.f2 u.f0 u.f1 u.f2 = some (eqT t u)
theorem sm_loop (a : Int) (b : List Int) (c : List T) (x : Int) (y : List Int) (z : List T) (hl : c.length ≤ 1000000) : ∀ (l m pre qre : List T), c = pre ++ l → z = qre ++ m → pre.length = qre.length → l.length = m.length → (∀ t, t ∈ l → SameC t) → ∃ k, lanyardref04_Same.l0 k (pre.length : Int) a b c x y z = some (eqL l m)
 | [], [], pre, qre, e1, e2, e3, _, _ => by
  rw [List.append_nil] at e1
  subst e1
  exact ⟨1, by rw [lanyardref04_Same.l0, if_neg (by omega), eqL]⟩
 | [], _ :: _, _, _, _, _, _, h, _ => by simp at h
 | _ :: _, [], _, _, _, _, _, h, _ => by simp at h
 | t :: l, u :: m, pre, qre, e1, e2, e3, h, ih => by
  have hlen : (pre.length : Int) < c.length := by rw [e1]; simp; omega
  have hlen2 : (pre.length : Int) < z.length := by rw [e2]; simp; omega
  have hr1 : rd_T25 c (pre.length : Int) = t := by simp [rd_T25, e1]
  have hr2 : rd_T25 z (pre.length : Int) = u := by rw [e3]; simp [rd_T25, e2]
  obtain ⟨k1, h1⟩ := ih t List.mem_cons_self u
  cases hq : eqT t u with
  | false =>
   refine ⟨k1 + 1, ?_⟩
   rw [lanyardref04_Same.l0, if_pos hlen, if_pos (by omega), if_pos hlen2, hr1, hr2, h1, hq, eqL, hq]
   rfl
  | true =>
   obtain ⟨k2, h2⟩ := sm_loop a b c x y z hl l m (pre ++ [t]) (qre ++ [u]) (by rw [e1]; simp) (by rw [e2]; simp) (by simp [e3]) (by simpa using h) (fun v hv => ih v (List.mem_cons_of_mem _ hv))
   refine ⟨(k1 + k2) + 1, ?_⟩
   have h3 := sml_up h2 k1
   rw [Nat.add_comm k2 k1, show ((pre ++ [t]).length : Int) = (pre.length : Int) + 1 by simp] at h3
   rw [lanyardref04_Same.l0, if_pos hlen, if_pos (by omega), if_pos hlen2, hr1, hr2, sm_up h1 k2, hq, Option.bind_some, if_pos rfl, wrap64_in _ (by omega), h3, eqL, hq]
   rfl
theorem sm_step (n : T) (hw : wT n ≤ 1000000) (ih : ∀ t, t ∈ n.f2 → SameC t) : SameC n := by
 have hk := kids_w hw
 obtain ⟨a, b, c⟩ := n
 rintro ⟨x, y, z⟩
 dsimp only at ih hk ⊢
 rw [eqT]
 by_cases h0 : a = x
 ·by_cases h1 : (strOfNums b).toList = (strOfNums y).toList
  ·have hb : eqB b y = true := by unfold eqB; rw [h1]; exact beq_self_eq_true _
   by_cases h2 : c.length = z.length
   ·obtain ⟨k, hk2⟩ := sm_loop a b c x y z hk.1 c z [] [] rfl rfl rfl h2 ih
    have hk2 : lanyardref04_Same.l0 k 0 a b c x y z = some (eqL c z) := hk2
    refine ⟨k + 2, ?_⟩
    have hne : ((c.length : Int) != (z.length : Int)) = false := by rw [h2]; exact bne_self_eq_false _
    rw [lanyardref04_Same.f, if_pos h0, if_pos h1, hne, lanyardref04_Same.j0, if_neg (by decide), hk2, decide_eq_true h0, hb]
    rfl
   ·refine ⟨2, ?_⟩
    have hne : ((c.length : Int) != (z.length : Int)) = true := by simp; omega
    rw [lanyardref04_Same.f, if_pos h0, if_pos h1, hne, lanyardref04_Same.j0, if_pos rfl, eqL_len c z h2, Bool.and_false]
  ·have hb : eqB b y = false := by unfold eqB; exact beq_eq_false_iff_ne.2 h1
   refine ⟨2, ?_⟩
   rw [lanyardref04_Same.f, if_pos h0, if_neg h1, lanyardref04_Same.j0, if_pos rfl, hb, Bool.and_false, Bool.false_and]
 ·refine ⟨2, ?_⟩
  rw [lanyardref04_Same.f, if_neg h0, lanyardref04_Same.j0, if_pos rfl, decide_eq_false h0, Bool.false_and, Bool.false_and]
theorem sm_any (n : T) (hw : wT n ≤ 1000000) : SameC n := node_any sm_step n hw

end Go.Proofs.Ytmbgjhkemlliaaa.Tlv
end

/- The machine side: functions as plain Lean functions, and that the calls come to what these say; written by a program of this session (wip/tools/inc.py over the kit's printer). -/
section
namespace Go.Proofs.Ytmbgjhkemlliaaa.PT
open Go.RowKit Go.Proofs.YtmbgjhkemlliaaaW.PrintWords Go.Proofs.YtmbgjhkemlliaaaW.PrintLast Go.Proofs.YtmbgjhkemlliaaaW.PrintMore
attribute [local go_sem] max2_int min2_int max_two min_two max_three min_three max_four min_four   -- for this text's walks alone
set_option linter.unusedVariables false
set_option linter.unusedSimpArgs false

/-! ### lanyardref05_Oid: function 35 -/
mutual
def lanyardref05_Oid.j0 : Nat → List Int → Bool → Option (Int × List Int × (List (S25)) × Int)
 | 0, _, _ => none
 | k + 1, x0, x37 => if x37 = true then (some (0, ([] : List Int), ([] : List (S25)), 1)) else (if 0 < (x0.length : Int) then (if 1 < (x0.length : Int) then ((lanyardref05_seven.f k (IntKind.u64.wrap ((IntKind.u64.wrap (40 * (IntKind.u64.wrap (rd x0 0)))) + (IntKind.u64.wrap (rd x0 1))))).bind fun t193 => (lanyardref05_Oid.l0 k x0 t193 2)) else (none)) else (none))
def lanyardref05_Oid.l0 : Nat → List Int → List Int → Int → Option (Int × List Int × (List (S25)) × Int)
 | 0, _, _, _ => none
 | k + 1, x0, x4, x5 => if x5 < (x0.length : Int) then (if 0 ≤ x5 then ((lanyardref05_seven.f k (IntKind.u64.wrap (rd x0 x5))).bind fun t197 => (if x4.length + t197.length < 140737488355328 then (lanyardref05_Oid.l0 k x0 (x4 ++ t197) (wrap64 (x5 + 1))) else (none))) else (none)) else (some (6, x4, ([] : List (S25)), 0))
end
def lanyardref05_Oid.f (k : Nat) (l0 : List Int) : Option (Int × List Int × (List (S25)) × Int) := if (l0.length : Int) < 2 then (lanyardref05_Oid.j0 k l0 true) else (if (l0.length : Int) > 20 then (lanyardref05_Oid.j0 k l0 true) else (if 0 < (l0.length : Int) then (if (rd l0 0) > 2 then (lanyardref05_Oid.j0 k l0 true) else (if 1 < (l0.length : Int) then (if (rd l0 1) > 4294967200 then (lanyardref05_Oid.j0 k l0 true) else (if (rd l0 1) > 39 then (lanyardref05_Oid.j0 k l0 ((rd l0 0) != 2)) else (lanyardref05_Oid.j0 k l0 false))) else (none))) else (none)))
theorem lanyardref05_Oid.mono_l : ∀ k, (∀ y0 y1, LeO (lanyardref05_Oid.j0 k y0 y1) (lanyardref05_Oid.j0 (k + 1) y0 y1)) ∧ (∀ y0 y1 y2, LeO (lanyardref05_Oid.l0 k y0 y1 y2) (lanyardref05_Oid.l0 (k + 1) y0 y1 y2))
 | 0 => ⟨fun _ _ r h => by simp [lanyardref05_Oid.j0] at h, fun _ _ _ r h => by simp [lanyardref05_Oid.l0] at h⟩
 | k + 1 => by
  obtain ⟨ih0, ih1⟩ := lanyardref05_Oid.mono_l k
  refine ⟨?_, ?_⟩
  ·intro y0 y1
   unfold lanyardref05_Oid.j0
   repeat' first
   | (with_reducible exact ih0 _ _)
   | (with_reducible exact ih1 _ _ _)
   | (with_reducible exact lanyardref05_seven.mono _ _)
   | (with_reducible exact LeO.refl _)
   | (with_reducible exact LeO.none _)
   | (with_reducible refine LeO.ite ?_ ?_)
   | (with_reducible refine LeO.bind ?_ (fun _ => ?_))
   | exact ih0 _ _
   | exact ih1 _ _ _
   | exact lanyardref05_seven.mono _ _
   | exact LeO.none _
   | refine LeO.ite ?_ ?_
   | refine LeO.bind ?_ (fun _ => ?_)
  ·intro y0 y1 y2
   unfold lanyardref05_Oid.l0
   repeat' first
   | (with_reducible exact ih0 _ _)
   | (with_reducible exact ih1 _ _ _)
   | (with_reducible exact lanyardref05_seven.mono _ _)
   | (with_reducible exact LeO.refl _)
   | (with_reducible exact LeO.none _)
   | (with_reducible refine LeO.ite ?_ ?_)
   | (with_reducible refine LeO.bind ?_ (fun _ => ?_))
   | exact ih0 _ _
   | exact ih1 _ _ _
   | exact lanyardref05_seven.mono _ _
   | exact LeO.none _
   | refine LeO.ite ?_ ?_
   | refine LeO.bind ?_ (fun _ => ?_)
theorem lanyardref05_Oid.mono : ∀ a0 k, LeO (lanyardref05_Oid.f k a0) (lanyardref05_Oid.f (k + 1) a0) := by
 intro a0 k
 obtain ⟨ih0, ih1⟩ := lanyardref05_Oid.mono_l k
 unfold lanyardref05_Oid.f
 repeat' first
  | (with_reducible exact ih0 _ _)
  | (with_reducible exact ih1 _ _ _)
  | (with_reducible exact lanyardref05_seven.mono _ _)
  | (with_reducible exact LeO.refl _)
  | (with_reducible exact LeO.none _)
  | (with_reducible refine LeO.ite ?_ ?_)
  | (with_reducible refine LeO.bind ?_ (fun _ => ?_))
  | exact ih0 _ _
  | exact ih1 _ _ _
  | exact lanyardref05_seven.mono _ _
  | exact LeO.none _
  | refine LeO.ite ?_ ?_
  | refine LeO.bind ?_ (fun _ => ?_)
def lanyardref05_Oid.T3 : Bool × List (List Nat × List Nat) := (true, [([], []), ([0], [0]), ([1], [1]), ([2], [2]), ([3], [3]), ([], []), ([5], [5]), ([6], [6]), ([7], [7]), ([4, 8], [4, 8]), ([9], [9]), ([10, 10, 0, 1, 2, 3, 4, 5, 6, 7, 8, 9, 10], [10])])
def lanyardref05_Oid.B3 : List Nat := [0, 1, 3, 7, 15, 0, 32, 96, 224, 511, 1023, 2047]
theorem lanyardref05_Oid.tab3 : rtab .any (opsOf Try.f35 3) = lanyardref05_Oid.T3 := by kernel_rfl
theorem lanyardref05_Oid.bits3 : waitsOk lanyardref05_Oid.T3.2 lanyardref05_Oid.B3 = true := by kernel_rfl
set_option maxHeartbeats 8000000 in
set_option maxRecDepth 100000 in
theorem lanyardref05_Oid.calls (k : Nat) (A0 : Option Addr) (c0 : Nat) (l0 : List Int) (r1 : Int) (r2 : List Int) (r3 : List (S25)) (r4 : Int) (w : World) (hr0 : Kd.C (Kd.int .u32) w A0 l0.length l0) (hc0 : l0.length ≤ c0) (h : lanyardref05_Oid.f k l0 = some (r1, r2, r3, r4)) :
 Calls Try.prog 35 #[.slice A0 l0.length c0] w fun e w' => ∃ v1_ v2_ : Value, e = .returned (.tuple #[.agg #[.int .i64 r1, v1_, v2_], .int .i64 r4]) ∧ Kd.R (Kd.int .u8) 5 w' w.heap.size (fun _ => True) v1_ r2 ∧ Kd.R k25 25 w' w.heap.size (fun k_ => some k_ ≠ (v1_ : Value).ownBlock) v2_ r3 ∧ Below w.heap.size w w' := by
 have hu25 := Try.underlying25
 have HR0 := Aside0.mk hr0
 have HC0 := Aside0.mk hc0
 clear hr0 hc0
 have HB := Aside0.mk (Below.refl w.heap.size w)
 have H : (if (l0.length : Int) < 2 then (lanyardref05_Oid.j0 k l0 true) else (if (l0.length : Int) > 20 then (lanyardref05_Oid.j0 k l0 true) else (if 0 < (l0.length : Int) then (if (rd l0 0) > 2 then (lanyardref05_Oid.j0 k l0 true) else (if 1 < (l0.length : Int) then (if (rd l0 1) > 4294967200 then (lanyardref05_Oid.j0 k l0 true) else (if (rd l0 1) > 39 then (lanyardref05_Oid.j0 k l0 ((rd l0 0) != 2)) else (lanyardref05_Oid.j0 k l0 false))) else (none))) else (none)))) = some (r1, r2, r3, r4) := h
 clear h
 have HC2 := Aside0.mk H
 clear H
 go_enter Try.func35, Try.ntmps35
 go_upto_region 1 with (first | ((with_reducible refine gate_dst (N := 2) rfl ?_); (try (refine gate_guard (by rfl) ?_; dsimp only)); refine box_event ?hg (N := 2) ?hd (cs := #[.int .i64 0, .slice none 0 0, .slice none 0 0]) (t := 25) ?hr ?_; (case hd => rfl); (case hg => rfl); (case hr => first | (go_simp; done) | (go_simp; rfl)); intro gb186 hg w3 hbox hb; have n0_ := Aside0.mk (below_step (by repeat (first | (with_reducible first | exact HB.out | apply below_alloc | apply pw_below_drewN | apply below_drew1) | exact HB.out)) hb); have n1_ := Aside0.mk (hbox); have n2_ := Aside0.mk ((by rw [hg]; exact (below_size (by repeat (first | (with_reducible first | exact HB.out | apply below_alloc | apply pw_below_drewN | apply below_drew1) | exact HB.out))) : w.heap.size ≤ gb186)); have n3_ := Aside0.mk ((by rw [hg]; exact (below_size (by repeat (first | (with_reducible first | exact HB.out | apply below_alloc | apply pw_below_drewN | apply below_drew1) | exact HB.out))) : w.heap.size ≤ gb186)); clear HB; have HB := n0_; have BK186 := n1_; have GW186 := n2_; have GE186 := n3_; clear n0_ n1_ n2_ n3_; clear hb hbox hg))
 (try simp only [Act.put, List.setIfInBounds_toArray, List.set_cons_zero, List.set_cons_succ])
 go_cut [37] (fun v37 wc => ∃ (kq : Nat) (x37_1 : Bool), v37 = .bool x37_1 ∧ Aside0 (lanyardref05_Oid.j0 kq l0 x37_1 = some (r1, r2, r3, r4)) ∧ Aside0 (kq ≤ k) ∧ Aside0 (wc.heap[gb186]? = some (.cells #[.int .i64 0, (.slice none 0 0), (.slice none 0 0)] 25 (0, 0))) ∧ Aside0 (Below w.heap.size w wc))
 case first =>
  have H := HC2.out
  clear HC2
  by_cases c4 : (l0.length : Int) < 2
  ·rw [if_pos c4] at H
   have c4b0 : decide ((l0.length : Int) < 2) = true := decide_eq_true c4
   have c4b1 : decide (l0.length < 2) = true := decide_eq_true (by omega)
   clear c4
   (first | rw [c4b0] | (simp only [i64_w, i32_w]; rw [c4b0]) | skip)
   have H' := Aside0.mk H
   clear H
   go_wp2
   go_meet
   case rel => exact ⟨_, (true), (by first | rfl | (simp; done) | (simp [*]; done)), H', ⟨by first | omega | exact Nat.le_refl _⟩, ⟨by (with_reducible repeat (first | refine blk_drewN ?_ _ | refine blk_drew ?_ | refine blk_alloc ?_ _)); exact BK186.out⟩, ⟨by repeat (first | (with_reducible first | exact HB.out | apply below_alloc | apply pw_below_drewN | apply below_drew1 | refine below_set ?_ GE186.out) | exact HB.out)⟩⟩
  ·rw [if_neg c4] at H
   have c4b0 : decide ((l0.length : Int) < 2) = false := decide_eq_false c4
   have c4b1 : decide (l0.length < 2) = false := decide_eq_false (by omega)
   clear c4
   (first | rw [c4b0] | (simp only [i64_w, i32_w]; rw [c4b0]) | skip)
   by_cases c5 : (l0.length : Int) > 20
   ·rw [if_pos c5] at H
    have c5b0 : decide (20 < (l0.length : Int)) = true := decide_eq_true c5
    have c5b1 : decide (20 < l0.length) = true := decide_eq_true (by omega)
    clear c5
    have H' := Aside0.mk H
    clear H
    go_wp2
    go_meet
    case rel => exact ⟨_, (true), (by first | rfl | (simp; done) | (simp [*]; done)), H', ⟨by first | omega | exact Nat.le_refl _⟩, ⟨by (with_reducible repeat (first | refine blk_drewN ?_ _ | refine blk_drew ?_ | refine blk_alloc ?_ _)); exact BK186.out⟩, ⟨by repeat (first | (with_reducible first | exact HB.out | apply below_alloc | apply pw_below_drewN | apply below_drew1 | refine below_set ?_ GE186.out) | exact HB.out)⟩⟩
   ·rw [if_neg c5] at H
    have c5b0 : decide (20 < (l0.length : Int)) = false := decide_eq_false c5
    have c5b1 : decide (20 < l0.length) = false := decide_eq_false (by omega)
    clear c5
    by_cases c6 : 0 < (l0.length : Int)
    ·rw [if_pos c6] at H
     have c6b0 : decide (0 < (l0.length : Int)) = true := decide_eq_true c6
     have c6b1 : decide (0 < l0.length) = true := decide_eq_true (by omega)
     clear c6
     by_cases c7 : (rd l0 0) > 2
     ·rw [if_pos c7] at H
      have c7b0 : decide (2 < (rd l0 0)) = true := decide_eq_true c7
      clear c7
      have H' := Aside0.mk H
      clear H
      have p187 : 0 ≤ (0 : Int) := (by omega)
      have q187 : 0 < (l0.length : Int) := of_decide_eq_true (by first | (with_reducible assumption) | assumption)
      obtain ⟨ad187, e187, hx187_0⟩ := Kd.at_int HR0.out 0 p187 q187
      cases e187
      have qi187 : (0 < l0.length) = True := eq_true (by omega)
      (try rw [show ((0 : Int)).toNat = 0 from rfl] at hx187_0)
      (try rw [Addr.add_zero'] at hx187_0)
      replace hx187_0 := (HB.out.cell (World.block_lt_of_cell? w _ hx187_0)).trans hx187_0
      replace p187 := eq_true p187
      replace q187 := eq_true q187
      go_wp2
      go_meet
      case rel => exact ⟨_, (true), (by first | rfl | (simp; done) | (simp [*]; done)), H', ⟨by first | omega | exact Nat.le_refl _⟩, ⟨by (with_reducible repeat (first | refine blk_drewN ?_ _ | refine blk_drew ?_ | refine blk_alloc ?_ _)); exact BK186.out⟩, ⟨by repeat (first | (with_reducible first | exact HB.out | apply below_alloc | apply pw_below_drewN | apply below_drew1 | refine below_set ?_ GE186.out) | exact HB.out)⟩⟩
     ·rw [if_neg c7] at H
      have c7b0 : decide (2 < (rd l0 0)) = false := decide_eq_false c7
      clear c7
      by_cases c8 : 1 < (l0.length : Int)
      ·rw [if_pos c8] at H
       have c8b0 : decide (1 < (l0.length : Int)) = true := decide_eq_true c8
       have c8b1 : decide (1 < l0.length) = true := decide_eq_true (by omega)
       clear c8
       by_cases c9 : (rd l0 1) > 4294967200
       ·rw [if_pos c9] at H
        have c9b0 : decide (4294967200 < (rd l0 1)) = true := decide_eq_true c9
        clear c9
        have H' := Aside0.mk H
        clear H
        have p187 : 0 ≤ (0 : Int) := (by omega)
        have q187 : 0 < (l0.length : Int) := of_decide_eq_true (by first | (with_reducible assumption) | assumption)
        obtain ⟨ad187, e187, hx187_0⟩ := Kd.at_int HR0.out 0 p187 q187
        cases e187
        have qi187 : (0 < l0.length) = True := eq_true (by omega)
        (try rw [show ((0 : Int)).toNat = 0 from rfl] at hx187_0)
        (try rw [Addr.add_zero'] at hx187_0)
        replace hx187_0 := (HB.out.cell (World.block_lt_of_cell? w _ hx187_0)).trans hx187_0
        replace p187 := eq_true p187
        replace q187 := eq_true q187
        have p188 : 0 ≤ (1 : Int) := (by omega)
        have q188 : 1 < (l0.length : Int) := of_decide_eq_true (by first | (with_reducible assumption) | assumption)
        obtain ⟨ad188, e188, hx188_0⟩ := Kd.at_int HR0.out 1 p188 q188
        obtain rfl : ad187 = ad188 := (by injection e188)
        (try simp only [show (1 : Int).toNat = 1 from rfl, Nat.reduceMul, Nat.reduceEqDiff, Go.Addr.add, ↓reduceIte] at hx188_0)
        have qi188 : (1 < l0.length) = True := eq_true (by omega)
        (try rw [show ((1 : Int)).toNat = 1 from rfl] at hx188_0)
        replace hx188_0 := (HB.out.cell (World.block_lt_of_cell? w _ hx188_0)).trans hx188_0
        replace p188 := eq_true p188
        replace q188 := eq_true q188
        go_wp2
        go_meet
        case rel => exact ⟨_, (true), (by first | rfl | (simp; done) | (simp [*]; done)), H', ⟨by first | omega | exact Nat.le_refl _⟩, ⟨by (with_reducible repeat (first | refine blk_drewN ?_ _ | refine blk_drew ?_ | refine blk_alloc ?_ _)); exact BK186.out⟩, ⟨by repeat (first | (with_reducible first | exact HB.out | apply below_alloc | apply pw_below_drewN | apply below_drew1 | refine below_set ?_ GE186.out) | exact HB.out)⟩⟩
       ·rw [if_neg c9] at H
        have c9b0 : decide (4294967200 < (rd l0 1)) = false := decide_eq_false c9
        clear c9
        by_cases c10 : (rd l0 1) > 39
        ·rw [if_pos c10] at H
         have c10b0 : decide (39 < (rd l0 1)) = true := decide_eq_true c10
         clear c10
         have H' := Aside0.mk H
         clear H
         have p187 : 0 ≤ (0 : Int) := (by omega)
         have q187 : 0 < (l0.length : Int) := of_decide_eq_true (by first | (with_reducible assumption) | assumption)
         obtain ⟨ad187, e187, hx187_0⟩ := Kd.at_int HR0.out 0 p187 q187
         cases e187
         have qi187 : (0 < l0.length) = True := eq_true (by omega)
         (try rw [show ((0 : Int)).toNat = 0 from rfl] at hx187_0)
         (try rw [Addr.add_zero'] at hx187_0)
         replace hx187_0 := (HB.out.cell (World.block_lt_of_cell? w _ hx187_0)).trans hx187_0
         replace p187 := eq_true p187
         replace q187 := eq_true q187
         have p188 : 0 ≤ (1 : Int) := (by omega)
         have q188 : 1 < (l0.length : Int) := of_decide_eq_true (by first | (with_reducible assumption) | assumption)
         obtain ⟨ad188, e188, hx188_0⟩ := Kd.at_int HR0.out 1 p188 q188
         obtain rfl : ad187 = ad188 := (by injection e188)
         (try simp only [show (1 : Int).toNat = 1 from rfl, Nat.reduceMul, Nat.reduceEqDiff, Go.Addr.add, ↓reduceIte] at hx188_0)
         have qi188 : (1 < l0.length) = True := eq_true (by omega)
         (try rw [show ((1 : Int)).toNat = 1 from rfl] at hx188_0)
         replace hx188_0 := (HB.out.cell (World.block_lt_of_cell? w _ hx188_0)).trans hx188_0
         replace p188 := eq_true p188
         replace q188 := eq_true q188
         have p189 : 0 ≤ (1 : Int) := (by omega)
         have q189 : 1 < (l0.length : Int) := of_decide_eq_true (by first | (with_reducible assumption) | assumption)
         obtain ⟨ad189, e189, hx189_0⟩ := Kd.at_int HR0.out 1 p189 q189
         obtain rfl : ad187 = ad189 := (by injection e189)
         (try simp only [show (1 : Int).toNat = 1 from rfl, Nat.reduceMul, Nat.reduceEqDiff, Go.Addr.add, ↓reduceIte] at hx189_0)
         have qi189 : (1 < l0.length) = True := eq_true (by omega)
         (try rw [show ((1 : Int)).toNat = 1 from rfl] at hx189_0)
         replace hx189_0 := (HB.out.cell (World.block_lt_of_cell? w _ hx189_0)).trans hx189_0
         replace p189 := eq_true p189
         replace q189 := eq_true q189
         have p190 : 0 ≤ (0 : Int) := (by omega)
         have q190 : 0 < (l0.length : Int) := of_decide_eq_true (by first | (with_reducible assumption) | assumption)
         obtain ⟨ad190, e190, hx190_0⟩ := Kd.at_int HR0.out 0 p190 q190
         obtain rfl : ad187 = ad190 := (by injection e190)
         have qi190 : (0 < l0.length) = True := eq_true (by omega)
         (try rw [show ((0 : Int)).toNat = 0 from rfl] at hx190_0)
         (try rw [Addr.add_zero'] at hx190_0)
         replace hx190_0 := (HB.out.cell (World.block_lt_of_cell? w _ hx190_0)).trans hx190_0
         replace p190 := eq_true p190
         replace q190 := eq_true q190
         go_wp2
         go_meet
         case rel => exact ⟨_, (((rd l0 0) != 2)), (by first | rfl | (simp; done) | (simp [*]; done)), H', ⟨by first | omega | exact Nat.le_refl _⟩, ⟨by (with_reducible repeat (first | refine blk_drewN ?_ _ | refine blk_drew ?_ | refine blk_alloc ?_ _)); exact BK186.out⟩, ⟨by repeat (first | (with_reducible first | exact HB.out | apply below_alloc | apply pw_below_drewN | apply below_drew1 | refine below_set ?_ GE186.out) | exact HB.out)⟩⟩
        ·rw [if_neg c10] at H
         have c10b0 : decide (39 < (rd l0 1)) = false := decide_eq_false c10
         clear c10
         have H' := Aside0.mk H
         clear H
         have p187 : 0 ≤ (0 : Int) := (by omega)
         have q187 : 0 < (l0.length : Int) := of_decide_eq_true (by first | (with_reducible assumption) | assumption)
         obtain ⟨ad187, e187, hx187_0⟩ := Kd.at_int HR0.out 0 p187 q187
         cases e187
         have qi187 : (0 < l0.length) = True := eq_true (by omega)
         (try rw [show ((0 : Int)).toNat = 0 from rfl] at hx187_0)
         (try rw [Addr.add_zero'] at hx187_0)
         replace hx187_0 := (HB.out.cell (World.block_lt_of_cell? w _ hx187_0)).trans hx187_0
         replace p187 := eq_true p187
         replace q187 := eq_true q187
         have p188 : 0 ≤ (1 : Int) := (by omega)
         have q188 : 1 < (l0.length : Int) := of_decide_eq_true (by first | (with_reducible assumption) | assumption)
         obtain ⟨ad188, e188, hx188_0⟩ := Kd.at_int HR0.out 1 p188 q188
         obtain rfl : ad187 = ad188 := (by injection e188)
         (try simp only [show (1 : Int).toNat = 1 from rfl, Nat.reduceMul, Nat.reduceEqDiff, Go.Addr.add, ↓reduceIte] at hx188_0)
         have qi188 : (1 < l0.length) = True := eq_true (by omega)
         (try rw [show ((1 : Int)).toNat = 1 from rfl] at hx188_0)
         replace hx188_0 := (HB.out.cell (World.block_lt_of_cell? w _ hx188_0)).trans hx188_0
         replace p188 := eq_true p188
         replace q188 := eq_true q188
         have p189 : 0 ≤ (1 : Int) := (by omega)
         have q189 : 1 < (l0.length : Int) := of_decide_eq_true (by first | (with_reducible assumption) | assumption)
         obtain ⟨ad189, e189, hx189_0⟩ := Kd.at_int HR0.out 1 p189 q189
         obtain rfl : ad187 = ad189 := (by injection e189)
         (try simp only [show (1 : Int).toNat = 1 from rfl, Nat.reduceMul, Nat.reduceEqDiff, Go.Addr.add, ↓reduceIte] at hx189_0)
         have qi189 : (1 < l0.length) = True := eq_true (by omega)
         (try rw [show ((1 : Int)).toNat = 1 from rfl] at hx189_0)
         replace hx189_0 := (HB.out.cell (World.block_lt_of_cell? w _ hx189_0)).trans hx189_0
         replace p189 := eq_true p189
         replace q189 := eq_true q189
         go_wp2
         go_meet
         case rel => exact ⟨_, (false), (by first | rfl | (simp; done) | (simp [*]; done)), H', ⟨by first | omega | exact Nat.le_refl _⟩, ⟨by (with_reducible repeat (first | refine blk_drewN ?_ _ | refine blk_drew ?_ | refine blk_alloc ?_ _)); exact BK186.out⟩, ⟨by repeat (first | (with_reducible first | exact HB.out | apply below_alloc | apply pw_below_drewN | apply below_drew1 | refine below_set ?_ GE186.out) | exact HB.out)⟩⟩
      ·rw [if_neg c8] at H
       exact absurd H (by simp)
    ·rw [if_neg c6] at H
     exact absurd H (by simp)
 case rest =>
  clear HC2
  try clear c1
  try clear p1
  try clear q1
  try clear hx1
  try clear qi1
  try clear p2
  try clear c3
  try clear c4
  try clear c4b0
  try clear c4b1
  try clear c5
  try clear c5b0
  try clear c5b1
  try clear c6
  try clear c6b0
  try clear c6b1
  try clear c7
  try clear c7b0
  try clear c8
  try clear c8b0
  try clear c8b1
  try clear c9
  try clear c9b0
  try clear c10
  try clear c10b0
  try clear hx187_0
  try clear hx188_0
  try clear hx189_0
  try clear hx190_0
  try clear p187
  try clear p188
  try clear p189
  try clear p190
  try clear q187
  try clear q188
  try clear q189
  try clear q190
  obtain ⟨kq, x37_1, rfl, HA, HJ1, BK186, HB⟩ := hcut
  cases kq with
  | zero => exact absurd HA.out (by simp [lanyardref05_Oid.j0])
  | succ kj1 =>
   have H := HA.out
   clear HA
   simp only [lanyardref05_Oid.j0] at H
   by_cases c11 : x37_1 = true
   ·subst c11
    have H1 : (some (0, ([] : List Int), ([] : List (S25)), 1)) = some (r1, r2, r3, r4) := by rw [if_pos rfl] at H; exact H
    clear H
    have H := H1
    clear H1
    simp only [Option.some.injEq, Prod.mk.injEq] at H
    obtain ⟨rfl, rfl, rfl, rfl⟩ := H
    have hcz12_0 : wc.cell? ⟨gb186, 0, none⟩ = some (.int .i64 0) := (blk_cell BK186.out 0).trans rfl
    have hcz12_1 : wc.cell? ⟨gb186, 1, none⟩ = some (.slice none 0 0) := (blk_cell BK186.out 1).trans rfl
    have hcz12_2 : wc.cell? ⟨gb186, 2, none⟩ = some (.slice none 0 0) := (blk_cell BK186.out 2).trans rfl
    have hfz12_0 := blk_frozen BK186.out 0
    have hfz12_1 := blk_frozen BK186.out 1
    have hfz12_2 := blk_frozen BK186.out 2
    go_wp2
    refine bodyPost_ret (results_ct rfl _ _ gb186 25 #[.int .i64 0, .slice none 0 0, .slice none 0 0] (0, 0) _ rfl (by (with_reducible repeat (first | refine blk_drewN ?_ _ | refine blk_drew ?_ | refine blk_alloc ?_ _)); refine blk_put (cs := #[.int .i64 0, .slice none 0 0, .slice none 0 0]) ?_ 2 _ rfl; (with_reducible repeat (first | refine blk_drewN ?_ _ | refine blk_drew ?_ | refine blk_alloc ?_ _)); refine blk_put (cs := #[.int .i64 0, .slice none 0 0, .slice none 0 0]) ?_ 1 _ rfl; (with_reducible repeat (first | refine blk_drewN ?_ _ | refine blk_drew ?_ | refine blk_alloc ?_ _)); refine blk_put (cs := #[.int .i64 0, .slice none 0 0, .slice none 0 0]) ?_ 0 _ rfl; (with_reducible repeat (first | refine blk_drewN ?_ _ | refine blk_drew ?_ | refine blk_alloc ?_ _)); exact BK186.out) Try.underlying25 rfl (by kernel_rfl)) rfl ?_
    exact ⟨_, _, by first | rfl | (simp [errW_none, errW_some] <;> rfl) | (simp [*, errW_none, errW_some] <;> rfl), by first | exact Kd.R_nil _ _ _ _ _ | exact Kd.N_nil _ _ _ _ _ | exact Kd.V_nil _ _ _ _ _ | exact Kd.Q_nil _ _ _ _ _ | exact Kd.S_nil _ _ _ _ _, by first | exact Kd.R_nil _ _ _ _ _ | exact Kd.N_nil _ _ _ _ _ | exact Kd.V_nil _ _ _ _ _ | exact Kd.Q_nil _ _ _ _ _ | exact Kd.S_nil _ _ _ _ _, by repeat (first | (with_reducible first | exact HB.out | apply below_alloc | apply pw_below_drewN | apply below_drew1 | refine below_set ?_ GE186.out) | exact HB.out)⟩
   ·replace c11 := Bool.eq_false_iff.mpr c11
    subst c11
    have H1 : (if 0 < (l0.length : Int) then (if 1 < (l0.length : Int) then ((lanyardref05_seven.f kj1 (IntKind.u64.wrap ((IntKind.u64.wrap (40 * (IntKind.u64.wrap (rd l0 0)))) + (IntKind.u64.wrap (rd l0 1))))).bind fun t193 => (lanyardref05_Oid.l0 kj1 l0 t193 2)) else (none)) else (none)) = some (r1, r2, r3, r4) := by rw [if_neg (show ¬ (false = true) by decide)] at H; exact H
    clear H
    have H := H1
    clear H1
    by_cases c13 : 0 < (l0.length : Int)
    ·rw [if_pos c13] at H
     have c13b0 : decide (0 < (l0.length : Int)) = true := decide_eq_true c13
     have c13b1 : decide (0 < l0.length) = true := decide_eq_true (by omega)
     clear c13
     by_cases c14 : 1 < (l0.length : Int)
     ·rw [if_pos c14] at H
      have c14b0 : decide (1 < (l0.length : Int)) = true := decide_eq_true c14
      have c14b1 : decide (1 < l0.length) = true := decide_eq_true (by omega)
      clear c14
      replace H := Option.bind_eq_some_iff.mp H
      obtain ⟨t193, A150, H⟩ := H
      replace H : (lanyardref05_Oid.l0 kj1 l0 t193 2) = some (r1, r2, r3, r4) := H
      have A15 := Aside0.mk A150
      clear A150
      have H' := Aside0.mk H
      clear H
      try go_wp2
      have n0_ := Aside0.mk (blk_drew BK186.out)
      have n1_ := Aside0.mk (below_drew1 HB.out)
      clear BK186
      clear HB
      have BK186 := n0_
      have HB := n1_
      clear n0_ n1_
      have p191 : 0 ≤ (0 : Int) := (by omega)
      have q191 : 0 < (l0.length : Int) := of_decide_eq_true (by first | (with_reducible assumption) | assumption)
      obtain ⟨ad191, e191, hx191_0⟩ := Kd.at_int HR0.out 0 p191 q191
      have hw191_0 := hx191_0
      (try rw [show ((0 : Int)).toNat = 0 from rfl] at hw191_0)
      (try rw [show 0 * 1 = 0 from rfl] at hw191_0)
      (try rw [Addr.add_zero'] at hw191_0)
      cases e191
      have qi191 : (0 < l0.length) = True := eq_true (by omega)
      (try rw [show ((0 : Int)).toNat = 0 from rfl] at hx191_0)
      (try rw [Addr.add_zero'] at hx191_0)
      replace hx191_0 := (HB.out.cell (World.block_lt_of_cell? w _ hx191_0)).trans hx191_0
      replace p191 := eq_true p191
      replace q191 := eq_true q191
      have p192 : 0 ≤ (1 : Int) := (by omega)
      have q192 : 1 < (l0.length : Int) := of_decide_eq_true (by first | (with_reducible assumption) | assumption)
      obtain ⟨ad192, e192, hx192_0⟩ := Kd.at_int HR0.out 1 p192 q192
      have hw192_0 := hx192_0
      (try rw [show ((1 : Int)).toNat = 1 from rfl] at hw192_0)
      (try rw [show 1 * 1 = 1 from rfl] at hw192_0)
      (try simp only [Nat.reduceMul, Nat.reduceEqDiff, Go.Addr.add, ↓reduceIte] at hw192_0)
      obtain rfl : ad191 = ad192 := (by injection e192)
      (try simp only [show (1 : Int).toNat = 1 from rfl, Nat.reduceMul, Nat.reduceEqDiff, Go.Addr.add, ↓reduceIte] at hx192_0)
      have qi192 : (1 < l0.length) = True := eq_true (by omega)
      (try rw [show ((1 : Int)).toNat = 1 from rfl] at hx192_0)
      replace hx192_0 := (HB.out.cell (World.block_lt_of_cell? w _ hx192_0)).trans hx192_0
      replace p192 := eq_true p192
      replace q192 := eq_true q192
      refine start_ (n := 12) (S := fun w' => w'.cell? ad191 = some (.int .u32 (rd l0 0)) ∧ w'.cell? ⟨ad191.block, ad191.off + 1, none⟩ = some (.int .u32 (rd l0 1))) (ds := []) #[false, false, false, false, false, false, false, false, false, false, false, false] (by kernel_rfl) rfl rfl ⟨((HB.out.cell (World.block_lt_of_cell? w _ hw191_0)).trans hw191_0), ((HB.out.cell (World.block_lt_of_cell? w _ hw192_0)).trans hw192_0)⟩ (fun hHeld => ?_); refine with_tabW lanyardref05_Oid.tab3 lanyardref05_Oid.bits3 (fun HT_ HW_ => ?_)
      generalize wc.drew = w16 at BK186 HB hx191_0 hx192_0 hHeld ⊢
      refine pure_ (i := 0) (N := some 39) (v := ?_) (a' := ?_) #[true, false, false, false, false, false, false, false, false, false, false, false] rfl rfl (any_of HT_.out (by kernel_rfl)) (fun _ _ _ h => h) (Or.inl ⟨by rfl, ?_⟩) ?_ ?_
      rotate_left
      ·intro w'
       go_simp
       with_reducible rfl
      rotate_left
      ·simp only [Act.put, List.setIfInBounds_toArray, List.set_cons_zero, List.set_cons_succ, i64_w, i32_w]
       rfl
      refine pure_ (i := 1) (N := some 40) (v := ?_) (a' := ?_) #[true, true, false, false, false, false, false, false, false, false, false, false] rfl rfl (any_of HT_.out (by kernel_rfl)) (fun _ _ _ h => h) (Or.inl ⟨by rfl, ?_⟩) ?_ ?_
      rotate_left
      ·intro w'
       go_simp
       with_reducible rfl
      rotate_left
      ·simp only [Act.put, List.setIfInBounds_toArray, List.set_cons_zero, List.set_cons_succ, i64_w, i32_w]
       rfl
      refine pure_ (i := 5) (N := some 44) (v := ?_) (a' := ?_) #[true, true, false, false, false, true, false, false, false, false, false, false] rfl rfl (any_of HT_.out (by kernel_rfl)) (fun _ _ _ h => h) (Or.inl ⟨by rfl, ?_⟩) ?_ ?_
      rotate_left
      ·intro w'
       go_simp
       with_reducible rfl
      rotate_left
      ·simp only [Act.put, List.setIfInBounds_toArray, List.set_cons_zero, List.set_cons_succ, i64_w, i32_w]
       rfl
      refine pure_ (i := 6) (N := some 45) (v := ?_) (a' := ?_) #[true, true, false, false, false, true, true, false, false, false, false, false] rfl rfl (any_of HT_.out (by kernel_rfl)) (fun _ _ _ h => h) (Or.inl ⟨by rfl, ?_⟩) ?_ ?_
      rotate_left
      ·intro w'
       go_simp
       with_reducible rfl
      rotate_left
      ·simp only [Act.put, List.setIfInBounds_toArray, List.set_cons_zero, List.set_cons_succ, i64_w, i32_w]
       rfl
      refine take_ (i := 2) (N := some 41) (v := ?_) (a' := ?_) #[true, true, true, false, false, true, true, false, false, false, false, false] rfl rfl (take_ofW HT_.out HW_.out (by kernel_rfl)) (fun _ _ _ h => h) (Or.inl ⟨by rfl, ?_⟩) hHeld ?_ ?_
      rotate_left
      ·rintro w' ⟨s0, s1⟩
       go_simp
       with_reducible rfl
      rotate_left
      ·simp only [Act.put, List.setIfInBounds_toArray, List.set_cons_zero, List.set_cons_succ, i64_w, i32_w]
       rfl
      refine pure_ (i := 3) (N := some 42) (v := ?_) (a' := ?_) #[true, true, true, true, false, true, true, false, false, false, false, false] rfl rfl (any_of HT_.out (by kernel_rfl)) (fun _ _ _ h => h) (Or.inl ⟨by rfl, ?_⟩) ?_ ?_
      rotate_left
      ·intro w'
       go_simp
       with_reducible rfl
      rotate_left
      ·simp only [Act.put, List.setIfInBounds_toArray, List.set_cons_zero, List.set_cons_succ, i64_w, i32_w]
       rfl
      refine pure_ (i := 4) (N := some 43) (v := ?_) (a' := ?_) #[true, true, true, true, true, true, true, false, false, false, false, false] rfl rfl (any_of HT_.out (by kernel_rfl)) (fun _ _ _ h => h) (Or.inl ⟨by rfl, ?_⟩) ?_ ?_
      rotate_left
      ·intro w'
       go_simp
       with_reducible rfl
      rotate_left
      ·simp only [Act.put, List.setIfInBounds_toArray, List.set_cons_zero, List.set_cons_succ, i64_w, i32_w]
       rfl
      refine take_ (i := 7) (N := some 46) (v := ?_) (a' := ?_) #[true, true, true, true, true, true, true, true, false, false, false, false] rfl rfl (take_ofW HT_.out HW_.out (by kernel_rfl)) (fun _ _ _ h => h) (Or.inl ⟨by rfl, ?_⟩) hHeld ?_ ?_
      rotate_left
      ·rintro w' ⟨s0, s1⟩
       go_simp
       with_reducible rfl
      rotate_left
      ·simp only [Act.put, List.setIfInBounds_toArray, List.set_cons_zero, List.set_cons_succ, i64_w, i32_w]
       rfl
      refine pure_ (i := 8) (N := some 47) (v := ?_) (a' := ?_) #[true, true, true, true, true, true, true, true, true, false, false, false] rfl rfl (any_of HT_.out (by kernel_rfl)) (fun _ _ _ h => h) (Or.inl ⟨by rfl, ?_⟩) ?_ ?_
      rotate_left
      ·intro w'
       go_simp
       with_reducible rfl
      rotate_left
      ·simp only [Act.put, List.setIfInBounds_toArray, List.set_cons_zero, List.set_cons_succ, i64_w, i32_w]
       rfl
      refine pure_ (i := 9) (N := some 48) (v := ?_) (a' := ?_) #[true, true, true, true, true, true, true, true, true, true, false, false] rfl rfl (any_of HT_.out (by kernel_rfl)) (fun _ _ _ h => h) (Or.inl ⟨by rfl, ?_⟩) ?_ ?_
      rotate_left
      ·intro w'
       go_simp
       with_reducible rfl
      rotate_left
      ·simp only [Act.put, List.setIfInBounds_toArray, List.set_cons_zero, List.set_cons_succ, i64_w, i32_w]
       rfl
      refine one_ (i := 10) (N := some 49) #[true, true, true, true, true, true, true, true, true, true, true, false] rfl rfl (one_of HT_.out (by kernel_rfl)) (by decide) (fun K hK => ?_)
      refine goes_ Try.func52 (by kernel_rfl) rfl #[.int .u64 (IntKind.u64.wrap ((IntKind.u64.wrap (40 * (IntKind.u64.wrap (rd l0 0)))) + (IntKind.u64.wrap (rd l0 1))))] (by rfl) rfl rfl (by (try simp only [List.map_toArray, List.map_cons, List.map_nil]); first | done | rfl | (simp only [List.length_drop, List.length_take]; rfl)) ?_
      with_reducible refine (lanyardref05_seven.calls kj1 (IntKind.u64.wrap ((IntKind.u64.wrap (40 * (IntKind.u64.wrap (rd l0 0)))) + (IntKind.u64.wrap (rd l0 1)))) t193 _ A15.out).mono ?_
      rintro e w17 ⟨v194, rfl, ho0, hb⟩
      refine ⟨_, rfl, ?_⟩
      have n0_ := Aside0.mk (Kd.R_lower ho0 (below_size (by repeat (first | (with_reducible first | exact HB.out | apply below_alloc | apply pw_below_drewN | apply below_drew1 | refine below_set ?_ GE186.out) | exact HB.out))))
      have n1_ := Aside0.mk (blk_below (g := gb186) (o := .cells #[.int .i64 0, .slice none 0 0, .slice none 0 0] 25 (0, 0)) (by (with_reducible repeat (first | refine blk_drewN ?_ _ | refine blk_drew ?_ | refine blk_alloc ?_ _)); exact BK186.out) hb)
      have n2_ := Aside0.mk (below_step (by repeat (first | (with_reducible first | exact HB.out | apply below_alloc | apply pw_below_drewN | apply below_drew1 | refine below_set ?_ GE186.out) | exact HB.out)) hb)
      clear BK186
      clear HB
      have HO195 := n0_
      have BK186 := n1_
      have HB := n2_
      clear n0_ n1_ n2_
      (try clear hb)
      (try clear hb2)
      (try clear hk)
      (try clear hi)
      (try clear ho0)
      refine hK.out _ _ ⟨((HB.out.cell (World.block_lt_of_cell? w _ hw191_0)).trans hw191_0), ((HB.out.cell (World.block_lt_of_cell? w _ hw192_0)).trans hw192_0)⟩ (fun hHeld => ?_)
      clear hK K
      refine norm_ (a' := ?_) ?_ ?_
      rotate_left
      ·show Act.put _ (some 49) _ = _
       simp only [Act.put, List.setIfInBounds_toArray, List.set_cons_zero, List.set_cons_succ, i64_w, i32_w]
       rfl
      refine pure_ (i := 11) (N := some 4) (v := ?_) (a' := ?_) #[true, true, true, true, true, true, true, true, true, true, true, true] rfl rfl (any_of HT_.out (by kernel_rfl)) (fun _ _ _ h => h) (Or.inl ⟨by rfl, ?_⟩) ?_ ?_
      rotate_left
      ·intro w'
       go_simp
       with_reducible rfl
      rotate_left
      ·simp only [Act.put, List.setIfInBounds_toArray, List.set_cons_zero, List.set_cons_succ, i64_w, i32_w]
       rfl
      refine done_ (done_of HT_.out (by kernel_rfl)) ?_
      try go_wp2
      go_loopg [4, 5] kj1 (fun kq v4 v5 w' => ∃ (x4_2 : List Int) (x5_2 : Int), v5 = .int .i64 x5_2 ∧ Aside0 (lanyardref05_Oid.l0 kq l0 x4_2 x5_2 = some (r1, r2, r3, r4)) ∧ Aside0 (kq ≤ kj1) ∧ Aside0 (Kd.R (Kd.int .u8) 5 w' w.heap.size (fun _ => True) v4 x4_2) ∧ Aside0 (w'.heap[gb186]? = some (.cells #[.int .i64 0, (.slice none 0 0), (.slice none 0 0)] 25 (0, 0))) ∧ Aside0 (Below w.heap.size w w'))
      case atStart => exact ⟨(t193), (2), (by first | rfl | (simp; done) | (simp [*]; done)), H', ⟨Nat.le_refl _⟩, ⟨by (with_reducible repeat (first | apply Kd.R_alloc | apply Kd.R_drewN | apply Kd.R_drew)); exact HO195.out⟩, ⟨by (with_reducible repeat (first | refine blk_drewN ?_ _ | refine blk_drew ?_ | refine blk_alloc ?_ _)); exact BK186.out⟩, ⟨by repeat (first | (with_reducible first | exact HB.out | apply below_alloc | apply pw_below_drewN | apply below_drew1 | refine below_set ?_ GE186.out) | exact HB.out)⟩⟩
      case round =>
       clear H'
       try clear c1
       try clear p1
       try clear q1
       try clear hx1
       try clear qi1
       try clear p2
       try clear c3
       try clear c4
       try clear c4b0
       try clear c4b1
       try clear c5
       try clear c5b0
       try clear c5b1
       try clear c6
       try clear c6b0
       try clear c6b1
       try clear c7
       try clear c7b0
       try clear c8
       try clear c8b0
       try clear c8b1
       try clear c9
       try clear c9b0
       try clear c10
       try clear c10b0
       try clear c11
       try clear c13
       try clear c13b0
       try clear c13b1
       try clear c14
       try clear c14b0
       try clear c14b1
       try clear hcz12_0
       try clear hcz12_1
       try clear hcz12_2
       try clear hfz12_0
       try clear hfz12_1
       try clear hfz12_2
       try clear hx187_0
       try clear hx188_0
       try clear hx189_0
       try clear hx190_0
       try clear hx191_0
       try clear hx192_0
       try clear p1
       try clear p187
       try clear p188
       try clear p189
       try clear p190
       try clear p191
       try clear p192
       try clear p2
       try clear q1
       try clear q187
       try clear q188
       try clear q189
       try clear q190
       try clear q191
       try clear q192
       obtain ⟨x4_2, x5_2, rfl, HA, HK2, HO_4, BK186, HB⟩ := hrel
       cases gk with
       | zero => exact absurd HA.out (by simp [lanyardref05_Oid.l0])
       | succ k2 =>
        have H := HA.out
        clear HA
        simp only [lanyardref05_Oid.l0] at H
        by_cases c18 : x5_2 < (l0.length : Int)
        ·rw [if_pos c18] at H
         have c18b0 : decide (x5_2 < (l0.length : Int)) = true := decide_eq_true c18
         clear c18
         by_cases c19 : 0 ≤ x5_2
         ·rw [if_pos c19] at H
          have c19b0 : decide (0 ≤ x5_2) = true := decide_eq_true c19
          clear c19
          replace H := Option.bind_eq_some_iff.mp H
          obtain ⟨t197, A200, H⟩ := H
          replace H : (if x4_2.length + t197.length < 140737488355328 then (lanyardref05_Oid.l0 k2 l0 (x4_2 ++ t197) (wrap64 (x5_2 + 1))) else (none)) = some (r1, r2, r3, r4) := H
          have A20 := Aside0.mk A200
          clear A200
          by_cases c21 : x4_2.length + t197.length < 140737488355328
          ·rw [if_pos c21] at H
           have LMc21 := Aside0.mk c21
           clear c21
           obtain ⟨y200, hy200⟩ : ∃ y_ : List Int, y_ = (x4_2 ++ t197) := ⟨_, rfl⟩
           replace H : (lanyardref05_Oid.l0 k2 l0 y200 (wrap64 (x5_2 + 1))) = some (r1, r2, r3, r4) := by first | (rw [hy200]; with_reducible exact H) | (have H2_ := (Option.bind_some _ _).symm.trans H; rw [hy200]; with_reducible exact H2_) | (have H2_ := (Option.bind_some _ _).symm.trans H; with_reducible exact H2_) | with_reducible exact H | (rw [hy200]; exact H) | exact H
           have Ny200 := Aside0.mk hy200
           clear hy200
           have H' := Aside0.mk H
           clear H
           have p196 : 0 ≤ (x5_2 : Int) := of_decide_eq_true (by first | (with_reducible assumption) | assumption)
           have q196 : x5_2 < (l0.length : Int) := of_decide_eq_true (by first | (with_reducible assumption) | assumption)
           obtain ⟨ad196, e196, hx196_0⟩ := Kd.at_int HR0.out x5_2 p196 q196
           obtain rfl : ad191 = ad196 := (by injection e196)
           replace hx196_0 := (HB.out.cell (World.block_lt_of_cell? w _ hx196_0)).trans hx196_0
           replace p196 := eq_true p196
           replace q196 := eq_true q196
           go_wp2_with (first | ((with_reducible refine gate_callee (f := 52) rfl ?_); refine goesL_ (some 62) rfl rfl Try.func52 (by kernel_rfl) rfl #[.int .u64 (IntKind.u64.wrap (rd l0 x5_2))] rfl (by (try simp only [List.map_toArray, List.map_cons, List.map_nil]); first | done | rfl | (simp only [List.length_drop, List.length_take]; rfl)) ?_; (with_reducible refine (lanyardref05_seven.calls k2 (IntKind.u64.wrap (rd l0 x5_2)) t197 _ A20.out).mono ?_); rintro e w22 ⟨v198, rfl, ho0, hb⟩; refine ⟨_, rfl, ?_⟩; have n0_ := Aside0.mk (Kd.R_elder' (by (with_reducible repeat (first | apply Kd.R_alloc | apply Kd.R_drewN | apply Kd.R_drew)); exact HO_4.out) (Kd.R_base ho0) hb); have n1_ := Aside0.mk (Kd.R_lower (Kd.R_new' ho0 (Kd.R_lt (by (with_reducible repeat (first | apply Kd.R_alloc | apply Kd.R_drewN | apply Kd.R_drew)); exact HO_4.out))) (below_size (by repeat (first | (with_reducible first | exact HB.out | apply below_alloc | apply pw_below_drewN | apply below_drew1 | refine below_set ?_ GE186.out) | exact HB.out)))); have n2_ := Aside0.mk (blk_below (g := gb186) (o := .cells #[.int .i64 0, .slice none 0 0, .slice none 0 0] 25 (0, 0)) (by (with_reducible repeat (first | refine blk_drewN ?_ _ | refine blk_drew ?_ | refine blk_alloc ?_ _)); exact BK186.out) hb); have n3_ := Aside0.mk (below_step (by repeat (first | (with_reducible first | exact HB.out | apply below_alloc | apply pw_below_drewN | apply below_drew1 | refine below_set ?_ GE186.out) | exact HB.out)) hb); clear HO_4; clear BK186; clear HB; have HO_4 := n0_; have HO199 := n1_; have BK186 := n2_; have HB := n3_; clear n0_ n1_ n2_ n3_; (try clear hb); (try clear hb2); (try clear hk); (try clear hi); (try clear ho0); obtain ⟨Ao24, co24, eo24⟩ := Kd.R_slice HO199.out; subst eo24) | ((with_reducible refine gate_builtin (b := .append) (xs := #[.tmp 56, .tmp 62]) rfl ?_); (try (refine gate_guard (by rfl) ?_; dsimp only)); at_builtin; refine Kd.R_append_rows (Kd.int .u8) (w0 := w) w.heap.size rfl (.tmp 56) (.tmp 62) 22 5 (.int .u8 0) 1 rfl Try.underlying22 info5 rfl (by decide) (by omega) u4 x4_2 t197 _ _ _ (fun k_ => some k_ ≠ (.slice Ao24 t197.length co24 : Value).ownBlock) (fun _ => False) rfl rfl ?aO ?aR (fun _ _ h => h) (fun _ h => h.elim) ?aF ?aB ?aS ?aL ?_; (case aR => repeat (first | exact (Kd.R_reads' HO199.out).2.2 | (with_reducible refine Kd.C_alloc ?_ _) | (with_reducible refine Kd.C_drewN ?_ _) | (with_reducible refine Kd.C_drew ?_))); (case aB => exact (by repeat (first | (with_reducible first | exact HB.out | apply below_alloc | apply pw_below_drewN | apply below_drew1 | refine below_set ?_ GE186.out) | exact HB.out))); (case aF => exact (fun k_ hk => Kd.fresh' (Kd.R_lt (by (with_reducible repeat (first | apply Kd.R_alloc | apply Kd.R_drewN | apply Kd.R_drew)); exact HO199.out)) k_ hk)); (case aO => exact (by (with_reducible repeat (first | apply Kd.R_alloc | apply Kd.R_drewN | apply Kd.R_drew)); exact Kd.R_mono HO_4.out (fun _ hk => hk.2))); (case aS => exact (below_size (by repeat (first | (with_reducible first | exact HB.out | apply below_alloc | apply pw_below_drewN | apply below_drew1 | refine below_set ?_ GE186.out) | exact HB.out)))); (case aL => have := LMc21.out; omega); intro v201 w23 ho hb hg hat; rw [← Ny200.out] at ho; have n0_ := Aside0.mk (blk_grown (g := gb186) (o := .cells #[.int .i64 0, .slice none 0 0, .slice none 0 0] 25 (0, 0)) (by (with_reducible repeat (first | refine blk_drewN ?_ _ | refine blk_drew ?_ | refine blk_alloc ?_ _)); exact BK186.out) hg (Kd.R_ne HO_4.out BK186.out (by decide))); have n1_ := Aside0.mk (Kd.R_after (ok := (fun _ => True)) (by (with_reducible repeat (first | apply Kd.R_alloc | apply Kd.R_drewN | apply Kd.R_drew)); exact HO199.out) hg hat); have n2_ := Aside0.mk (hb); have n3_ := Aside0.mk (ho); clear BK186; clear HO199; clear HB; clear HO_4; have BK186 := n0_; have HO199 := n1_; have HB := n2_; have HO202 := n3_; clear n0_ n1_ n2_ n3_; clear ho hb hg hat))
           go_roundg k2
           case measure => have := HJ1.out; have := HK2.out; omega
           case rel => exact ⟨(y200), (wrap64 (x5_2 + 1)), (by first | rfl | (simp; done) | (simp [*]; done)), H', ⟨by have := HJ1.out; have := HK2.out; omega⟩, ⟨by (with_reducible repeat (first | apply Kd.R_alloc | apply Kd.R_drewN | apply Kd.R_drew)); exact Kd.R_mono HO202.out (fun _ hk => trivial)⟩, ⟨by (with_reducible repeat (first | refine blk_drewN ?_ _ | refine blk_drew ?_ | refine blk_alloc ?_ _)); exact BK186.out⟩, ⟨by repeat (first | (with_reducible first | exact HB.out | apply below_alloc | apply pw_below_drewN | apply below_drew1 | refine below_set ?_ GE186.out) | exact HB.out)⟩⟩
          ·rw [if_neg c21] at H
           exact absurd H (by simp)
         ·rw [if_neg c19] at H
          exact absurd H (by simp)
        ·rw [if_neg c18] at H
         have c18b0 : decide (x5_2 < (l0.length : Int)) = false := decide_eq_false c18
         clear c18
         simp only [Option.some.injEq, Prod.mk.injEq] at H
         obtain ⟨rfl, rfl, rfl, rfl⟩ := H
         obtain ⟨Ao25, co25, eo25⟩ := Kd.R_slice HO_4.out
         subst eo25
         have hcz26_0 : wr.cell? ⟨gb186, 0, none⟩ = some (.int .i64 0) := (blk_cell BK186.out 0).trans rfl
         have hcz26_1 : wr.cell? ⟨gb186, 1, none⟩ = some (.slice none 0 0) := (blk_cell BK186.out 1).trans rfl
         have hcz26_2 : wr.cell? ⟨gb186, 2, none⟩ = some (.slice none 0 0) := (blk_cell BK186.out 2).trans rfl
         have hfz26_0 := blk_frozen BK186.out 0
         have hfz26_1 := blk_frozen BK186.out 1
         have hfz26_2 := blk_frozen BK186.out 2
         go_wp2
         refine bodyPost_ret (results_ct rfl _ _ gb186 25 #[.int .i64 6, .slice Ao25 x4_2.length co25, .slice none 0 0] (0, 0) _ rfl (by (with_reducible repeat (first | refine blk_drewN ?_ _ | refine blk_drew ?_ | refine blk_alloc ?_ _)); refine blk_put (cs := #[.int .i64 6, .slice Ao25 x4_2.length co25, .slice none 0 0]) ?_ 2 _ rfl; (with_reducible repeat (first | refine blk_drewN ?_ _ | refine blk_drew ?_ | refine blk_alloc ?_ _)); refine blk_put (cs := #[.int .i64 6, .slice none 0 0, .slice none 0 0]) ?_ 1 _ rfl; (with_reducible repeat (first | refine blk_drewN ?_ _ | refine blk_drew ?_ | refine blk_alloc ?_ _)); refine blk_put (cs := #[.int .i64 0, .slice none 0 0, .slice none 0 0]) ?_ 0 _ rfl; (with_reducible repeat (first | refine blk_drewN ?_ _ | refine blk_drew ?_ | refine blk_alloc ?_ _)); exact BK186.out) Try.underlying25 rfl (by kernel_rfl)) rfl ?_
         exact ⟨_, _, by first | rfl | (simp [errW_none, errW_some] <;> rfl) | (simp [*, errW_none, errW_some] <;> rfl), by (with_reducible repeat (first | apply Kd.R_alloc | apply Kd.R_drewN | apply Kd.R_drew)); exact Kd.R_mono (Kd.R_far (p := ⟨gb186, 2, none⟩) (Kd.R_far (p := ⟨gb186, 1, none⟩) (Kd.R_far (p := ⟨gb186, 0, none⟩) (Kd.R_types HO_4.out BK186.out (by decide)) (fun _ hk => hk.2) (.int .i64 6)) (fun _ hk => hk.2) (.slice Ao25 x4_2.length co25)) (fun _ hk => hk.2) (.slice none 0 0)) (fun _ hk => trivial), by first | exact Kd.R_nil _ _ _ _ _ | exact Kd.N_nil _ _ _ _ _ | exact Kd.V_nil _ _ _ _ _ | exact Kd.Q_nil _ _ _ _ _ | exact Kd.S_nil _ _ _ _ _, by repeat (first | (with_reducible first | exact HB.out | apply below_alloc | apply pw_below_drewN | apply below_drew1 | refine below_set ?_ GE186.out) | exact HB.out)⟩
     ·rw [if_neg c14] at H
      exact absurd H (by simp)
    ·rw [if_neg c13] at H
     exact absurd H (by simp)

end Go.Proofs.Ytmbgjhkemlliaaa.PT
end

/- The machine side: functions as plain Lean functions, and that the calls come to what these say; written by a program of this session (wip/tools/inc.py over the kit's printer). -/
section
namespace Go.Proofs.Ytmbgjhkemlliaaa.PT
open Go.RowKit Go.Proofs.YtmbgjhkemlliaaaW.PrintWords Go.Proofs.YtmbgjhkemlliaaaW.PrintLast Go.Proofs.YtmbgjhkemlliaaaW.PrintMore
attribute [local go_sem] max2_int min2_int max_two min_two max_three min_three max_four min_four   -- for this text's walks alone
set_option linter.unusedVariables false
set_option linter.unusedSimpArgs false

/-! ### lanyardref05_Of: function 26 -/
def lanyardref05_Of.j0 : Nat → Bool → Int → List Int → List (S25) → Option (List Int × Int × Int)
 | 0, _, _, _, _ => none
 | k + 1, x19, x275000, x275001, x275002 => if x19 = true then (some (([] : List Int), 0, 2)) else ((some (([] : List Int) : List Int)).bind fun y276 => (if 1 ≤ (x275001.length : Int) then (if y276.length + (x275001.drop 1).length < 140737488355328 then ((some (y276 ++ (x275001.drop 1) : List Int)).bind fun y280 => (if 0 < (x275001.length : Int) then ((lanyardref05_Bits.f k y280 (wrap64 ((wrap64 (8 * (y280.length : Int))) - (wrap64 (rd x275001 0))))).bind fun bt284 => (if bt284.2.2.2 = 0 then ((lanyardref04_Same.f k bt284.1 bt284.2.1 bt284.2.2.1 x275000 x275001 x275002).bind fun t293 => (if t293 = true then (some (y280, wrap64 ((wrap64 (8 * (y280.length : Int))) - (wrap64 (rd x275001 0))), 0)) else (some (([] : List Int), 0, 2)))) else (some (([] : List Int), 0, 2)))) else (none))) else (none)) else (none)))
def lanyardref05_Of.f (k : Nat) (a0_0 : Int) (l0_1 : List Int) (l0_2 : List (S25)) : Option (List Int × Int × Int) := if (l0_1.length : Int) = 0 then (lanyardref05_Of.j0 k true a0_0 l0_1 l0_2) else (if 0 < (l0_1.length : Int) then (lanyardref05_Of.j0 k (decide ((rd l0_1 0) > 7)) a0_0 l0_1 l0_2) else (none))
theorem lanyardref05_Of.mono_l : ∀ k, (∀ y0 y1 y2 y3, LeO (lanyardref05_Of.j0 k y0 y1 y2 y3) (lanyardref05_Of.j0 (k + 1) y0 y1 y2 y3))
 | 0 => fun _ _ _ _ r h => by simp [lanyardref05_Of.j0] at h
 | k + 1 => by
  have ih0 := lanyardref05_Of.mono_l k
  ·intro y0 y1 y2 y3
   unfold lanyardref05_Of.j0
   repeat' first
   | (with_reducible exact ih0 _ _ _ _)
   | (with_reducible exact lanyardref04_Same.mono _ _ _ _ _ _ _)
   | (with_reducible exact lanyardref05_Bits.mono _ _ _)
   | (with_reducible exact LeO.refl _)
   | (with_reducible exact LeO.none _)
   | (with_reducible refine LeO.ite ?_ ?_)
   | (with_reducible refine LeO.bind ?_ (fun _ => ?_))
   | exact ih0 _ _ _ _
   | exact lanyardref04_Same.mono _ _ _ _ _ _ _
   | exact lanyardref05_Bits.mono _ _ _
   | exact LeO.none _
   | refine LeO.ite ?_ ?_
   | refine LeO.bind ?_ (fun _ => ?_)
theorem lanyardref05_Of.mono : ∀ a0 a1 a2 k, LeO (lanyardref05_Of.f k a0 a1 a2) (lanyardref05_Of.f (k + 1) a0 a1 a2) := by
 intro a0 a1 a2 k
 have ih0 := lanyardref05_Of.mono_l k
 unfold lanyardref05_Of.f
 repeat' first
  | (with_reducible exact ih0 _ _ _ _)
  | (with_reducible exact lanyardref04_Same.mono _ _ _ _ _ _ _)
  | (with_reducible exact lanyardref05_Bits.mono _ _ _)
  | (with_reducible exact LeO.refl _)
  | (with_reducible exact LeO.none _)
  | (with_reducible refine LeO.ite ?_ ?_)
  | (with_reducible refine LeO.bind ?_ (fun _ => ?_))
  | exact ih0 _ _ _ _
  | exact lanyardref04_Same.mono _ _ _ _ _ _ _
  | exact lanyardref05_Bits.mono _ _ _
  | exact LeO.none _
  | refine LeO.ite ?_ ?_
  | refine LeO.bind ?_ (fun _ => ?_)
set_option maxHeartbeats 8000000 in
set_option maxRecDepth 100000 in
theorem lanyardref05_Of.calls (k : Nat) (a0_0 : Int) (A0_1 : Option Addr) (c0_1 : Nat) (l0_1 : List Int) (A0_2 : Option Addr) (c0_2 : Nat) (l0_2 : List (S25)) (r1 : List Int) (r2 : Int) (r3 : Int) (w : World) (hr0_1 : Kd.C (Kd.int .u8) w A0_1 l0_1.length l0_1) (hc0_1 : l0_1.length ≤ c0_1) (hr0_2 : Kd.C k25 w A0_2 l0_2.length l0_2) (hc0_2 : l0_2.length ≤ c0_2) (h : lanyardref05_Of.f k a0_0 l0_1 l0_2 = some (r1, r2, r3)) :
 Calls Try.prog 26 #[.agg #[.int .i64 a0_0, .slice A0_1 l0_1.length c0_1, .slice A0_2 l0_2.length c0_2]] w fun e w' => ∃ v0_ : Value, e = .returned (.tuple #[v0_, .int .i64 r2, .int .i64 r3]) ∧ Kd.R (Kd.int .u8) 5 w' w.heap.size (fun _ => True) v0_ r1 ∧ Below w.heap.size w w' := by
 have hu25 := Try.underlying25
 have HR0_1 := Aside0.mk hr0_1
 have HC0_1 := Aside0.mk hc0_1
 clear hr0_1 hc0_1
 have HR0_2 := Aside0.mk hr0_2
 have HC0_2 := Aside0.mk hc0_2
 clear hr0_2 hc0_2
 have HB := Aside0.mk (Below.refl w.heap.size w)
 have H : (if (l0_1.length : Int) = 0 then (lanyardref05_Of.j0 k true a0_0 l0_1 l0_2) else (if 0 < (l0_1.length : Int) then (lanyardref05_Of.j0 k (decide ((rd l0_1 0) > 7)) a0_0 l0_1 l0_2) else (none))) = some (r1, r2, r3) := h
 clear h
 have HC2 := Aside0.mk H
 clear H
 go_enter Try.func26, Try.ntmps26
 go_upto_region 1 with (first | ((with_reducible refine gate_dst (N := 1) rfl ?_); refine box_event ?hg (N := 1) ?hd (cs := #[.int .i64 a0_0, .slice A0_1 l0_1.length c0_1, .slice A0_2 l0_2.length c0_2]) (t := 25) ?hr ?_; (case hd => rfl); (case hg => rfl); (case hr => first | (go_simp; done) | (go_simp; rfl)); intro gb274 hg w3 hbox hb; have n0_ := Aside0.mk (below_step (by repeat (first | (with_reducible first | exact HB.out | apply below_alloc | apply pw_below_drewN | apply below_drew1) | exact HB.out)) hb); have n1_ := Aside0.mk (hbox); have n2_ := Aside0.mk ((by rw [hg]; exact (below_size (by repeat (first | (with_reducible first | exact HB.out | apply below_alloc | apply pw_below_drewN | apply below_drew1) | exact HB.out))) : w.heap.size ≤ gb274)); have n3_ := Aside0.mk ((by rw [hg]; exact (below_size (by repeat (first | (with_reducible first | exact HB.out | apply below_alloc | apply pw_below_drewN | apply below_drew1) | exact HB.out))) : w.heap.size ≤ gb274)); clear HB; have HB := n0_; have BK274 := n1_; have GW274 := n2_; have GE274 := n3_; clear n0_ n1_ n2_ n3_; clear hb hbox hg))
 (try simp only [Act.put, List.setIfInBounds_toArray, List.set_cons_zero, List.set_cons_succ])
 go_cut [19] (fun v19 wc => ∃ (kq : Nat) (x19_1 : Bool), v19 = .bool x19_1 ∧ Aside0 (lanyardref05_Of.j0 kq x19_1 a0_0 l0_1 l0_2 = some (r1, r2, r3)) ∧ Aside0 (kq ≤ k) ∧ Aside0 (wc.heap[gb274]? = some (.cells #[.int .i64 a0_0, (.slice A0_1 l0_1.length c0_1), (.slice A0_2 l0_2.length c0_2)] 25 (0, 0))) ∧ Aside0 (Below w.heap.size w wc))
 case first =>
  have H := HC2.out
  clear HC2
  by_cases c4 : (l0_1.length : Int) = 0
  ·rw [if_pos c4] at H
   have c4b0 : ((l0_1.length : Int) == 0) = true := beq_iff_eq.mpr c4
   have c4b1 : ((l0_1.length : Int) != 0) = false := bne_eq_false_iff_eq.mpr c4
   clear c4
   (first | rw [c4b0] | (simp only [i64_w, i32_w]; rw [c4b0]) | skip)
   have H' := Aside0.mk H
   clear H
   have hcz5_0 : w3.cell? ⟨gb274, 0, none⟩ = some (.int .i64 a0_0) := (blk_cell BK274.out 0).trans rfl
   have hcz5_1 : w3.cell? ⟨gb274, 1, none⟩ = some (.slice A0_1 l0_1.length c0_1) := (blk_cell BK274.out 1).trans rfl
   have hcz5_2 : w3.cell? ⟨gb274, 2, none⟩ = some (.slice A0_2 l0_2.length c0_2) := (blk_cell BK274.out 2).trans rfl
   have hfz5_0 := blk_frozen BK274.out 0
   have hfz5_1 := blk_frozen BK274.out 1
   have hfz5_2 := blk_frozen BK274.out 2
   go_wp2
   go_meet
   case rel => exact ⟨_, (true), (by first | rfl | (simp; done) | (simp [*]; done)), H', ⟨by first | omega | exact Nat.le_refl _⟩, ⟨by (with_reducible repeat (first | refine blk_drewN ?_ _ | refine blk_drew ?_ | refine blk_alloc ?_ _)); exact BK274.out⟩, ⟨by repeat (first | (with_reducible first | exact HB.out | apply below_alloc | apply pw_below_drewN | apply below_drew1 | refine below_set ?_ GE274.out) | exact HB.out)⟩⟩
  ·rw [if_neg c4] at H
   have c4b0 : ((l0_1.length : Int) == 0) = false := beq_eq_false_iff_ne.mpr c4
   have c4b1 : ((l0_1.length : Int) != 0) = true := bne_iff_ne.mpr c4
   have c4b2 : ¬ (l0_1 = []) := fun h_ => c4 (by rw [h_]; rfl)
   (first | rw [c4b0] | (simp only [i64_w, i32_w]; rw [c4b0]) | skip)
   by_cases c6 : 0 < (l0_1.length : Int)
   ·rw [if_pos c6] at H
    have c6b0 : decide (0 < (l0_1.length : Int)) = true := decide_eq_true c6
    have c6b1 : decide (0 < l0_1.length) = true := decide_eq_true (by omega)
    clear c6
    have H' := Aside0.mk H
    clear H
    have hcz7_0 : w3.cell? ⟨gb274, 0, none⟩ = some (.int .i64 a0_0) := (blk_cell BK274.out 0).trans rfl
    have hcz7_1 : w3.cell? ⟨gb274, 1, none⟩ = some (.slice A0_1 l0_1.length c0_1) := (blk_cell BK274.out 1).trans rfl
    have hcz7_2 : w3.cell? ⟨gb274, 2, none⟩ = some (.slice A0_2 l0_2.length c0_2) := (blk_cell BK274.out 2).trans rfl
    have hfz7_0 := blk_frozen BK274.out 0
    have hfz7_1 := blk_frozen BK274.out 1
    have hfz7_2 := blk_frozen BK274.out 2
    have p275 : 0 ≤ (0 : Int) := (by omega)
    have q275 : 0 < (l0_1.length : Int) := of_decide_eq_true (by first | (with_reducible assumption) | assumption)
    obtain ⟨ad275, e275, hx275_0⟩ := Kd.at_int HR0_1.out 0 p275 q275
    cases e275
    have qi275 : (0 < l0_1.length) = True := eq_true (by omega)
    (try rw [show ((0 : Int)).toNat = 0 from rfl] at hx275_0)
    (try rw [Addr.add_zero'] at hx275_0)
    replace hx275_0 := (HB.out.cell (World.block_lt_of_cell? w _ hx275_0)).trans hx275_0
    replace p275 := eq_true p275
    replace q275 := eq_true q275
    go_wp2
    go_meet
    case rel => exact ⟨_, (decide ((rd l0_1 0) > 7)), (by first | rfl | (simp; done) | (simp [*]; done)), H', ⟨by first | omega | exact Nat.le_refl _⟩, ⟨by (with_reducible repeat (first | refine blk_drewN ?_ _ | refine blk_drew ?_ | refine blk_alloc ?_ _)); exact BK274.out⟩, ⟨by repeat (first | (with_reducible first | exact HB.out | apply below_alloc | apply pw_below_drewN | apply below_drew1 | refine below_set ?_ GE274.out) | exact HB.out)⟩⟩
   ·rw [if_neg c6] at H
    exact absurd H (by simp)
 case rest =>
  clear HC2
  try clear c2
  try clear p2
  try clear q2
  try clear hx2
  try clear qi2
  try clear c4
  try clear c4b0
  try clear c4b1
  try clear c4b2
  try clear c6
  try clear c6b0
  try clear c6b1
  try clear hcz5_0
  try clear hcz5_1
  try clear hcz5_2
  try clear hcz7_0
  try clear hcz7_1
  try clear hcz7_2
  try clear hfz5_0
  try clear hfz5_1
  try clear hfz5_2
  try clear hfz7_0
  try clear hfz7_1
  try clear hfz7_2
  try clear hx275_0
  try clear p275
  try clear q275
  obtain ⟨kq, x19_1, rfl, HA, HJ1, BK274, HB⟩ := hcut
  cases kq with
  | zero => exact absurd HA.out (by simp [lanyardref05_Of.j0])
  | succ kj1 =>
   have H := HA.out
   clear HA
   simp only [lanyardref05_Of.j0] at H
   by_cases c8 : x19_1 = true
   ·subst c8
    have H1 : (some (([] : List Int), 0, 2)) = some (r1, r2, r3) := by rw [if_pos rfl] at H; exact H
    clear H
    have H := H1
    clear H1
    simp only [Option.some.injEq, Prod.mk.injEq] at H
    obtain ⟨rfl, rfl, rfl⟩ := H
    go_wp2
    go_ret3
    exact ⟨_, by first | rfl | (simp [errW_none, errW_some] <;> rfl) | (simp [*, errW_none, errW_some] <;> rfl), by first | exact Kd.R_nil _ _ _ _ _ | exact Kd.N_nil _ _ _ _ _ | exact Kd.V_nil _ _ _ _ _ | exact Kd.Q_nil _ _ _ _ _ | exact Kd.S_nil _ _ _ _ _, by repeat (first | (with_reducible first | exact HB.out | apply below_alloc | apply pw_below_drewN | apply below_drew1 | refine below_set ?_ GE274.out) | exact HB.out)⟩
   ·replace c8 := Bool.eq_false_iff.mpr c8
    subst c8
    have H1 : ((some (([] : List Int) : List Int)).bind fun y276 => (if 1 ≤ (l0_1.length : Int) then (if y276.length + (l0_1.drop 1).length < 140737488355328 then ((some (y276 ++ (l0_1.drop 1) : List Int)).bind fun y280 => (if 0 < (l0_1.length : Int) then ((lanyardref05_Bits.f kj1 y280 (wrap64 ((wrap64 (8 * (y280.length : Int))) - (wrap64 (rd l0_1 0))))).bind fun bt284 => (if bt284.2.2.2 = 0 then ((lanyardref04_Same.f kj1 bt284.1 bt284.2.1 bt284.2.2.1 a0_0 l0_1 l0_2).bind fun t293 => (if t293 = true then (some (y280, wrap64 ((wrap64 (8 * (y280.length : Int))) - (wrap64 (rd l0_1 0))), 0)) else (some (([] : List Int), 0, 2)))) else (some (([] : List Int), 0, 2)))) else (none))) else (none)) else (none))) = some (r1, r2, r3) := by rw [if_neg (show ¬ (false = true) by decide)] at H; exact H
    clear H
    have H := H1
    clear H1
    obtain ⟨y276, hy276⟩ : ∃ y_ : List Int, y_ = (([] : List Int)) := ⟨_, rfl⟩
    replace H : (if 1 ≤ (l0_1.length : Int) then (if y276.length + (l0_1.drop 1).length < 140737488355328 then ((some (y276 ++ (l0_1.drop 1) : List Int)).bind fun y280 => (if 0 < (l0_1.length : Int) then ((lanyardref05_Bits.f kj1 y280 (wrap64 ((wrap64 (8 * (y280.length : Int))) - (wrap64 (rd l0_1 0))))).bind fun bt284 => (if bt284.2.2.2 = 0 then ((lanyardref04_Same.f kj1 bt284.1 bt284.2.1 bt284.2.2.1 a0_0 l0_1 l0_2).bind fun t293 => (if t293 = true then (some (y280, wrap64 ((wrap64 (8 * (y280.length : Int))) - (wrap64 (rd l0_1 0))), 0)) else (some (([] : List Int), 0, 2)))) else (some (([] : List Int), 0, 2)))) else (none))) else (none)) else (none)) = some (r1, r2, r3) := by first | (rw [hy276]; with_reducible exact H) | (have H2_ := (Option.bind_some _ _).symm.trans H; rw [hy276]; with_reducible exact H2_) | (have H2_ := (Option.bind_some _ _).symm.trans H; with_reducible exact H2_) | with_reducible exact H | (rw [hy276]; exact H) | exact H
    have Ny276 := Aside0.mk hy276
    clear hy276
    by_cases c9 : 1 ≤ (l0_1.length : Int)
    ·rw [if_pos c9] at H
     have c9b0 := eq_true c9
     have c9b1 : decide (1 ≤ (l0_1.length : Int)) = true := decide_eq_true c9
     clear c9
     by_cases c10 : y276.length + (l0_1.drop 1).length < 140737488355328
     ·rw [if_pos c10] at H
      have LMc10 := Aside0.mk c10
      clear c10
      obtain ⟨y280, hy280⟩ : ∃ y_ : List Int, y_ = (y276 ++ (l0_1.drop 1)) := ⟨_, rfl⟩
      replace H : (if 0 < (l0_1.length : Int) then ((lanyardref05_Bits.f kj1 y280 (wrap64 ((wrap64 (8 * (y280.length : Int))) - (wrap64 (rd l0_1 0))))).bind fun bt284 => (if bt284.2.2.2 = 0 then ((lanyardref04_Same.f kj1 bt284.1 bt284.2.1 bt284.2.2.1 a0_0 l0_1 l0_2).bind fun t293 => (if t293 = true then (some (y280, wrap64 ((wrap64 (8 * (y280.length : Int))) - (wrap64 (rd l0_1 0))), 0)) else (some (([] : List Int), 0, 2)))) else (some (([] : List Int), 0, 2)))) else (none)) = some (r1, r2, r3) := by first | (rw [hy280]; with_reducible exact H) | (have H2_ := (Option.bind_some _ _).symm.trans H; rw [hy280]; with_reducible exact H2_) | (have H2_ := (Option.bind_some _ _).symm.trans H; with_reducible exact H2_) | with_reducible exact H | (rw [hy280]; exact H) | exact H
      have Ny280 := Aside0.mk hy280
      clear hy280
      by_cases c11 : 0 < (l0_1.length : Int)
      ·rw [if_pos c11] at H
       have c11b0 : decide (0 < (l0_1.length : Int)) = true := decide_eq_true c11
       have c11b1 : decide (0 < l0_1.length) = true := decide_eq_true (by omega)
       clear c11
       replace H := Option.bind_eq_some_iff.mp H
       obtain ⟨⟨t284, t285, t288, t291⟩, A120, H⟩ := H
       replace H : (if t291 = 0 then ((lanyardref04_Same.f kj1 t284 t285 t288 a0_0 l0_1 l0_2).bind fun t293 => (if t293 = true then (some (y280, wrap64 ((wrap64 (8 * (y280.length : Int))) - (wrap64 (rd l0_1 0))), 0)) else (some (([] : List Int), 0, 2)))) else (some (([] : List Int), 0, 2))) = some (r1, r2, r3) := H
       have A12 := Aside0.mk A120
       clear A120
       by_cases c13 : t291 = 0
       ·rw [if_pos c13] at H
        have c13b0 : (t291 == 0) = true := beq_iff_eq.mpr c13
        have c13b1 : (t291 != 0) = false := bne_eq_false_iff_eq.mpr c13
        clear c13
        replace H := Option.bind_eq_some_iff.mp H
        obtain ⟨t293, A140, H⟩ := H
        replace H : (if t293 = true then (some (y280, wrap64 ((wrap64 (8 * (y280.length : Int))) - (wrap64 (rd l0_1 0))), 0)) else (some (([] : List Int), 0, 2))) = some (r1, r2, r3) := H
        have A14 := Aside0.mk A140
        clear A140
        by_cases c15 : t293 = true
        ·subst c15
         have H1 : (some (y280, wrap64 ((wrap64 (8 * (y280.length : Int))) - (wrap64 (rd l0_1 0))), 0)) = some (r1, r2, r3) := by rw [if_pos rfl] at H; exact H
         clear H
         have H := H1
         clear H1
         simp only [Option.some.injEq, Prod.mk.injEq] at H
         obtain ⟨rfl, rfl, rfl⟩ := H
         go_wp2_with (first | ((with_reducible refine gate_dst (N := 20) rfl ?_); refine Kd.R_lit (Kd.int .u8) _ 5 ?hg (N := 20) ?hd (xs := ([] : List Int)) (inner := []) (ok := fun _ => True) (okp := fun _ => True) ?hr ?hp (fun _ hk => hk) trivial (Below.refl _ _) (Nat.le_refl _) (by simp) ?_; (case hd => rfl); (case hg => rfl); (case hr => first | (go_simp; done) | (go_simp; rfl)); (case hp => exact (Reps.none _ _)); intro v277 w16 ho17 hb hg_ hnew_; clear hg_ hnew_; (first | rw [← Ny276.out] at ho17 | (simp only [Int.reduceToNat] at ho17; rw [← Ny276.out] at ho17)); have n0_ := Aside0.mk (Kd.R_lower ho17 (below_size (by repeat (first | (with_reducible first | exact HB.out | apply below_alloc | apply pw_below_drewN | apply below_drew1 | refine below_set ?_ GE274.out) | exact HB.out)))); have n1_ := Aside0.mk (blk_below (g := gb274) (o := .cells #[.int .i64 a0_0, .slice A0_1 l0_1.length c0_1, .slice A0_2 l0_2.length c0_2] 25 (0, 0)) (by (with_reducible repeat (first | refine blk_drewN ?_ _ | refine blk_drew ?_ | refine blk_alloc ?_ _)); exact BK274.out) hb); have n2_ := Aside0.mk (below_step (by repeat (first | (with_reducible first | exact HB.out | apply below_alloc | apply pw_below_drewN | apply below_drew1 | refine below_set ?_ GE274.out) | exact HB.out)) hb); clear BK274; clear HB; have HO278 := n0_; have BK274 := n1_; have HB := n2_; clear n0_ n1_ n2_; clear hb ho17; have hcz18_0 : w16.cell? ⟨gb274, 0, none⟩ = some (.int .i64 a0_0) := (blk_cell BK274.out 0).trans rfl; have hcz18_1 : w16.cell? ⟨gb274, 1, none⟩ = some (.slice A0_1 l0_1.length c0_1) := (blk_cell BK274.out 1).trans rfl; have hcz18_2 : w16.cell? ⟨gb274, 2, none⟩ = some (.slice A0_2 l0_2.length c0_2) := (blk_cell BK274.out 2).trans rfl; have hfz18_0 := blk_frozen BK274.out 0; have hfz18_1 := blk_frozen BK274.out 1; have hfz18_2 := blk_frozen BK274.out 2; obtain ⟨i019, hi019, _, hsz19, _⟩ := info_parts info5; obtain ⟨A19, hcut19, hA19, hC19⟩ := print_drop_of (P := Try.prog) (Value.int .u8) 0 22 5 .i64 Try.underlying22 hi019 hsz19 A0_1 c0_1 l0_1 1 (by omega) (of_decide_eq_true (by first | (with_reducible assumption) | assumption)) HC0_1.out; have HR279 := Aside0.mk (Kd.C_of_reads (h1 := fun _ => rfl) (hA19 _ (Kd.reads_of_C HR0_1.out))); have HC279 := Aside0.mk hC19; clear hA19 hC19 hi019 hsz19) | ((with_reducible refine gate_builtin (b := .append) (xs := #[.tmp 20, .tmp 23]) rfl ?_); at_builtin; refine Kd.R_append_rows (Kd.int .u8) (w0 := w) w.heap.size rfl (.tmp 20) (.tmp 23) 22 5 (.int .u8 0) 1 rfl Try.underlying22 info5 rfl (by decide) (by omega) v277 y276 (l0_1.drop 1) _ _ _ (fun _ => True) (fun _ => False) rfl rfl ?aO ?aR (fun _ _ h => h) (fun _ h => h.elim) ?aF ?aB ?aS ?aL ?_; (case aR => first | (rw [← show (l0_1.drop 1).length = (l0_1.length - 1) from List.length_drop]; repeat (first | exact (Kd.C_below HR279.out HB.out) | (with_reducible refine Kd.C_alloc ?_ _) | (with_reducible refine Kd.C_drewN ?_ _) | (with_reducible refine Kd.C_drew ?_))) | (repeat (first | exact (Kd.C_below HR279.out HB.out) | (with_reducible refine Kd.C_alloc ?_ _) | (with_reducible refine Kd.C_drewN ?_ _) | (with_reducible refine Kd.C_drew ?_)))); (case aB => exact (by repeat (first | (with_reducible first | exact HB.out | apply below_alloc | apply pw_below_drewN | apply below_drew1 | refine below_set ?_ GE274.out) | exact HB.out))); (case aF => exact (fun _ _ => trivial)); (case aO => exact (by (with_reducible repeat (first | apply Kd.R_alloc | apply Kd.R_drewN | apply Kd.R_drew)); exact HO278.out)); (case aS => exact (below_size (by repeat (first | (with_reducible first | exact HB.out | apply below_alloc | apply pw_below_drewN | apply below_drew1 | refine below_set ?_ GE274.out) | exact HB.out)))); (case aL => have := LMc10.out; have hlx_ := (show (l0_1.drop 1).length = (l0_1.length - 1) from List.length_drop); omega); intro v281 w20 ho hb hg hat; rw [← Ny280.out] at ho; have n0_ := Aside0.mk (blk_grown (g := gb274) (o := .cells #[.int .i64 a0_0, .slice A0_1 l0_1.length c0_1, .slice A0_2 l0_2.length c0_2] 25 (0, 0)) (by (with_reducible repeat (first | refine blk_drewN ?_ _ | refine blk_drew ?_ | refine blk_alloc ?_ _)); exact BK274.out) hg (Kd.R_ne HO278.out BK274.out (by decide))); have n1_ := Aside0.mk (hb); have n2_ := Aside0.mk (ho); clear BK274; clear HB; clear HO278; have BK274 := n0_; have HB := n1_; have HO282 := n2_; clear n0_ n1_ n2_; clear ho hb hg hat; obtain ⟨Ao21, co21, eo21⟩ := Kd.R_slice HO282.out; subst eo21; have hcz22_0 : w20.cell? ⟨gb274, 0, none⟩ = some (.int .i64 a0_0) := (blk_cell BK274.out 0).trans rfl; have hcz22_1 : w20.cell? ⟨gb274, 1, none⟩ = some (.slice A0_1 l0_1.length c0_1) := (blk_cell BK274.out 1).trans rfl; have hcz22_2 : w20.cell? ⟨gb274, 2, none⟩ = some (.slice A0_2 l0_2.length c0_2) := (blk_cell BK274.out 2).trans rfl; have hfz22_0 := blk_frozen BK274.out 0; have hfz22_1 := blk_frozen BK274.out 1; have hfz22_2 := blk_frozen BK274.out 2; have p283 : 0 ≤ (0 : Int) := (by omega); have q283 : 0 < (l0_1.length : Int) := of_decide_eq_true (by first | (with_reducible assumption) | assumption); obtain ⟨ad283, e283, hx283_0⟩ := Kd.at_int HR0_1.out 0 p283 q283; cases e283; have qi283 : (0 < l0_1.length) = True := eq_true (by omega); (try rw [show ((0 : Int)).toNat = 0 from rfl] at hx283_0); (try rw [Addr.add_zero'] at hx283_0); replace hx283_0 := (HB.out.cell (World.block_lt_of_cell? w _ hx283_0)).trans hx283_0; replace p283 := eq_true p283; replace q283 := eq_true q283) | ((with_reducible refine gate_callee (f := 16) rfl ?_); refine goesL_ (some 37) rfl rfl Try.func16 (by kernel_rfl) rfl #[.slice Ao21 y280.length co21, .int .i64 (wrap64 ((wrap64 (8 * (y280.length : Int))) - (wrap64 (rd l0_1 0))))] rfl (by (try simp only [List.map_toArray, List.map_cons, List.map_nil]); first | done | rfl | (simp only [List.length_drop, List.length_take]; rfl)) ?_; (with_reducible refine (lanyardref05_Bits.calls kj1 _ _ y280 (wrap64 ((wrap64 (8 * (y280.length : Int))) - (wrap64 (rd l0_1 0)))) t284 t285 t288 t291 _ ?side1 ?side2 A12.out).mono ?_); (case side1 => repeat (first | exact (Kd.R_reads' HO282.out).2.2 | (with_reducible refine Kd.C_alloc ?_ _) | (with_reducible refine Kd.C_drewN ?_ _) | (with_reducible refine Kd.C_drew ?_))); (case side2 => exact (Kd.R_reads' HO282.out).2.1); rintro e w23 ⟨v286, v289, rfl, ho0, ho1, hb⟩; refine ⟨_, rfl, ?_⟩; have n0_ := Aside0.mk (Kd.R_elder' (by (with_reducible repeat (first | apply Kd.R_alloc | apply Kd.R_drewN | apply Kd.R_drew)); exact HO282.out) (Kd.R_base ho0) hb); have n1_ := Aside0.mk (Kd.R_lower (Kd.R_new' ho0 (Kd.R_lt (by (with_reducible repeat (first | apply Kd.R_alloc | apply Kd.R_drewN | apply Kd.R_drew)); exact HO282.out))) (below_size (by repeat (first | (with_reducible first | exact HB.out | apply below_alloc | apply pw_below_drewN | apply below_drew1 | refine below_set ?_ GE274.out) | exact HB.out)))); have n2_ := Aside0.mk (Kd.R_lower (Kd.R_newB (Kd.R_new' ho1 (Kd.R_lt (by (with_reducible repeat (first | apply Kd.R_alloc | apply Kd.R_drewN | apply Kd.R_drew)); exact HO282.out))) (g := gb274) (o := .cells #[.int .i64 a0_0, .slice (some ad283) l0_1.length c0_1, .slice A0_2 l0_2.length c0_2] 25 (0, 0)) (by (with_reducible repeat (first | refine blk_drewN ?_ _ | refine blk_drew ?_ | refine blk_alloc ?_ _)); exact BK274.out)) (below_size (by repeat (first | (with_reducible first | exact HB.out | apply below_alloc | apply pw_below_drewN | apply below_drew1 | refine below_set ?_ GE274.out) | exact HB.out)))); have n3_ := Aside0.mk (blk_below (g := gb274) (o := .cells #[.int .i64 a0_0, .slice (some ad283) l0_1.length c0_1, .slice A0_2 l0_2.length c0_2] 25 (0, 0)) (by (with_reducible repeat (first | refine blk_drewN ?_ _ | refine blk_drew ?_ | refine blk_alloc ?_ _)); exact BK274.out) hb); have n4_ := Aside0.mk (below_step (by repeat (first | (with_reducible first | exact HB.out | apply below_alloc | apply pw_below_drewN | apply below_drew1 | refine below_set ?_ GE274.out) | exact HB.out)) hb); clear HO282; clear BK274; clear HB; have HO282 := n0_; have HO287 := n1_; have HO290 := n2_; have BK274 := n3_; have HB := n4_; clear n0_ n1_ n2_ n3_ n4_; (try clear hb); (try clear hb2); (try clear hk); (try clear hi); (try clear ho0); (try clear ho1)) | ((with_reducible refine gate_dst (N := 7) rfl ?_); refine box_event ?hg (N := 7) ?hd (cs := #[.int .i64 0, .slice none 0 0, .slice none 0 0]) (t := 25) ?hr ?_; (case hd => rfl); (case hg => rfl); (case hr => first | (go_simp; done) | (go_simp; rfl)); intro gb292 hg w24 hbox hb; have n0_ := Aside0.mk (Kd.R_below (by (with_reducible repeat (first | apply Kd.R_alloc | apply Kd.R_drewN | apply Kd.R_drew)); exact HO282.out) hb); have n1_ := Aside0.mk (Kd.R_below (by (with_reducible repeat (first | apply Kd.R_alloc | apply Kd.R_drewN | apply Kd.R_drew)); exact HO287.out) hb); have n2_ := Aside0.mk (Kd.R_below (Kd.R_elderB (by (with_reducible repeat (first | apply Kd.R_alloc | apply Kd.R_drewN | apply Kd.R_drew)); exact HO290.out) gb292 (Nat.le_of_eq hg.symm)) hb); have n3_ := Aside0.mk (blk_below (g := gb274) (o := .cells #[.int .i64 a0_0, .slice (some ad283) l0_1.length c0_1, .slice A0_2 l0_2.length c0_2] 25 (0, 0)) (by (with_reducible repeat (first | refine blk_drewN ?_ _ | refine blk_drew ?_ | refine blk_alloc ?_ _)); exact BK274.out) hb); have n4_ := Aside0.mk (below_step (by repeat (first | (with_reducible first | exact HB.out | apply below_alloc | apply pw_below_drewN | apply below_drew1 | refine below_set ?_ GE274.out) | exact HB.out)) hb); have n5_ := Aside0.mk (hbox); have n6_ := Aside0.mk ((by rw [hg]; exact (below_size (by repeat (first | (with_reducible first | exact HB.out | apply below_alloc | apply pw_below_drewN | apply below_drew1 | refine below_set ?_ GE274.out) | exact HB.out))) : w.heap.size ≤ gb292)); have n7_ := Aside0.mk ((by rw [hg]; exact (below_size (by repeat (first | (with_reducible first | exact HB.out | apply below_alloc | apply pw_below_drewN | apply below_drew1 | refine below_set ?_ GE274.out) | exact HB.out))) : w.heap.size ≤ gb292)); have n8_ := Aside0.mk ((by rw [hg]; exact Nat.ne_of_lt (blk_lt (g := gb274) (o := .cells #[.int .i64 a0_0, .slice (some ad283) l0_1.length c0_1, .slice A0_2 l0_2.length c0_2] 25 (0, 0)) (by (with_reducible repeat (first | refine blk_drewN ?_ _ | refine blk_drew ?_ | refine blk_alloc ?_ _)); exact BK274.out)) : gb274 ≠ gb292)); have n9_ := Aside0.mk ((by rw [hg]; exact Nat.ne_of_gt (blk_lt (g := gb274) (o := .cells #[.int .i64 a0_0, .slice (some ad283) l0_1.length c0_1, .slice A0_2 l0_2.length c0_2] 25 (0, 0)) (by (with_reducible repeat (first | refine blk_drewN ?_ _ | refine blk_drew ?_ | refine blk_alloc ?_ _)); exact BK274.out)) : gb292 ≠ gb274)); clear HO282; clear HO287; clear HO290; clear BK274; clear HB; have HO282 := n0_; have HO287 := n1_; have HO290 := n2_; have BK274 := n3_; have HB := n4_; have BK292 := n5_; have GW292 := n6_; have GE292 := n7_; have NB274_292 := n8_; have NB292_274 := n9_; clear n0_ n1_ n2_ n3_ n4_ n5_ n6_ n7_ n8_ n9_; clear hb hbox hg; have hnb25 := NB292_274.out; have hnc25 := NB274_292.out; have hcz26_0 : w24.cell? ⟨gb292, 0, none⟩ = some (.int .i64 0) := (blk_cell BK292.out 0).trans rfl; have hcz26_1 : w24.cell? ⟨gb292, 1, none⟩ = some (.slice none 0 0) := (blk_cell BK292.out 1).trans rfl; have hcz26_2 : w24.cell? ⟨gb292, 2, none⟩ = some (.slice none 0 0) := (blk_cell BK292.out 2).trans rfl; have hfz26_0 := blk_frozen BK292.out 0; have hfz26_1 := blk_frozen BK292.out 1; have hfz26_2 := blk_frozen BK292.out 2; obtain ⟨Ao27, co27, eo27⟩ := Kd.R_slice HO287.out; subst eo27; obtain ⟨Ao28, co28, eo28⟩ := Kd.R_slice HO290.out; subst eo28; have hcz29_0 : w24.cell? ⟨gb274, 0, none⟩ = some (.int .i64 a0_0) := (blk_cell BK274.out 0).trans rfl; have hcz29_1 : w24.cell? ⟨gb274, 1, none⟩ = some (.slice (some ad283) l0_1.length c0_1) := (blk_cell BK274.out 1).trans rfl; have hcz29_2 : w24.cell? ⟨gb274, 2, none⟩ = some (.slice A0_2 l0_2.length c0_2) := (blk_cell BK274.out 2).trans rfl; have hfz29_0 := blk_frozen BK274.out 0; have hfz29_1 := blk_frozen BK274.out 1; have hfz29_2 := blk_frozen BK274.out 2) | (go_at_call 11; (with_reducible refine (lanyardref04_Same.calls kj1 t284 _ _ t285 _ _ t288 a0_0 _ _ l0_1 _ _ l0_2 true _ ?side1 ?side2 ?side3 ?side4 ?side5 ?side6 ?side7 ?side8 A14.out).mono ?_); (case side1 => refine (Kd.R_reads' (e := 5) (base := w.heap.size) (ok := fun k_ => (True ∧ some k_ ≠ (.slice Ao21 y280.length co21 : Value).ownBlock)) (n := t285.length) (c := co27) ?_).2.2; exact (by (with_reducible repeat (first | apply Kd.R_alloc | apply Kd.R_drewN | apply Kd.R_drew)); exact (Kd.R_mono (Kd.R_far (p := ⟨gb292, 2, none⟩) (Kd.R_far (p := ⟨gb292, 1, none⟩) (Kd.R_far (p := ⟨gb292, 0, none⟩) (Kd.R_types HO287.out BK292.out (by decide)) (fun _ hk => hk.2) (.int .i64 t284)) (fun _ hk => hk.2) (.slice Ao27 t285.length co27)) (fun _ hk => hk.2) (.slice Ao28 t288.length co28)) (fun _ h_ => h_.1)))); (case side2 => exact (Kd.R_reads' HO287.out).2.1); (case side3 => refine (Kd.R_reads' (e := 25) (base := w.heap.size) (ok := fun k_ => (((some k_ ≠ (.slice Ao27 t285.length co27 : Value).ownBlock ∧ some k_ ≠ (.slice Ao21 y280.length co21 : Value).ownBlock) ∧ k_ ≠ gb274) ∧ k_ ≠ gb292)) (n := t288.length) (c := co28) ?_).2.2; exact (by (with_reducible repeat (first | apply Kd.R_alloc | apply Kd.R_drewN | apply Kd.R_drew)); exact (Kd.R_mono (Kd.R_far (p := ⟨gb292, 2, none⟩) (Kd.R_far (p := ⟨gb292, 1, none⟩) (Kd.R_far (p := ⟨gb292, 0, none⟩) (Kd.R_mono HO290.out (fun k_ hk => (⟨hk, hk.2⟩ : _ ∧ k_ ≠ gb292))) (fun _ hk => hk.2) (.int .i64 t284)) (fun _ hk => hk.2) (.slice Ao27 t285.length co27)) (fun _ hk => hk.2) (.slice Ao28 t288.length co28)) (fun _ h_ => h_.1)))); (case side4 => exact (Kd.R_reads' HO290.out).2.1); (case side5 => exact Kd.C_below HR0_1.out (by repeat (first | (with_reducible first | exact HB.out | apply below_alloc | apply pw_below_drewN | apply below_drew1 | refine below_set ?_ GE274.out | refine below_set ?_ GE292.out) | exact HB.out))); (case side6 => exact HC0_1.out); (case side7 => exact Kd.C_below HR0_2.out (by repeat (first | (with_reducible first | exact HB.out | apply below_alloc | apply pw_below_drewN | apply below_drew1 | refine below_set ?_ GE274.out | refine below_set ?_ GE292.out) | exact HB.out))); (case side8 => exact HC0_2.out); rintro e w30 ⟨rfl, hb⟩; have n0_ := Aside0.mk (Kd.R_below (by (with_reducible repeat (first | apply Kd.R_alloc | apply Kd.R_drewN | apply Kd.R_drew)); exact (Kd.R_mono (Kd.R_far (p := ⟨gb292, 2, none⟩) (Kd.R_far (p := ⟨gb292, 1, none⟩) (Kd.R_far (p := ⟨gb292, 0, none⟩) (Kd.R_types HO282.out BK292.out (by decide)) (fun _ hk => hk.2) (.int .i64 t284)) (fun _ hk => hk.2) (.slice Ao27 t285.length co27)) (fun _ hk => hk.2) (.slice Ao28 t288.length co28)) (fun _ h_ => h_.1))) hb); have n1_ := Aside0.mk (Kd.R_below (by (with_reducible repeat (first | apply Kd.R_alloc | apply Kd.R_drewN | apply Kd.R_drew)); exact (Kd.R_mono (Kd.R_far (p := ⟨gb292, 2, none⟩) (Kd.R_far (p := ⟨gb292, 1, none⟩) (Kd.R_far (p := ⟨gb292, 0, none⟩) (Kd.R_types HO287.out BK292.out (by decide)) (fun _ hk => hk.2) (.int .i64 t284)) (fun _ hk => hk.2) (.slice Ao27 t285.length co27)) (fun _ hk => hk.2) (.slice Ao28 t288.length co28)) (fun _ h_ => h_.1))) hb); have n2_ := Aside0.mk (Kd.R_below (by (with_reducible repeat (first | apply Kd.R_alloc | apply Kd.R_drewN | apply Kd.R_drew)); exact (Kd.R_mono (Kd.R_far (p := ⟨gb292, 2, none⟩) (Kd.R_far (p := ⟨gb292, 1, none⟩) (Kd.R_far (p := ⟨gb292, 0, none⟩) (Kd.R_mono HO290.out (fun k_ hk => (⟨hk, hk.2⟩ : _ ∧ k_ ≠ gb292))) (fun _ hk => hk.2) (.int .i64 t284)) (fun _ hk => hk.2) (.slice Ao27 t285.length co27)) (fun _ hk => hk.2) (.slice Ao28 t288.length co28)) (fun _ h_ => h_.1))) hb); have n3_ := Aside0.mk (blk_below (g := gb274) (o := .cells #[.int .i64 a0_0, .slice (some ad283) l0_1.length c0_1, .slice A0_2 l0_2.length c0_2] 25 (0, 0)) (by (with_reducible repeat (first | refine blk_drewN ?_ _ | refine blk_drew ?_ | refine blk_alloc ?_ _)); refine blk_far ?_ NB274_292.out _; (with_reducible repeat (first | refine blk_drewN ?_ _ | refine blk_drew ?_ | refine blk_alloc ?_ _)); refine blk_far ?_ NB274_292.out _; (with_reducible repeat (first | refine blk_drewN ?_ _ | refine blk_drew ?_ | refine blk_alloc ?_ _)); refine blk_far ?_ NB274_292.out _; (with_reducible repeat (first | refine blk_drewN ?_ _ | refine blk_drew ?_ | refine blk_alloc ?_ _)); exact BK274.out) hb); have n4_ := Aside0.mk (blk_below (g := gb292) (o := .cells #[.int .i64 t284, .slice Ao27 t285.length co27, .slice Ao28 t288.length co28] 25 (0, 0)) (by (with_reducible repeat (first | refine blk_drewN ?_ _ | refine blk_drew ?_ | refine blk_alloc ?_ _)); refine blk_put (cs := #[.int .i64 t284, .slice Ao27 t285.length co27, .slice none 0 0]) ?_ 2 _ rfl; (with_reducible repeat (first | refine blk_drewN ?_ _ | refine blk_drew ?_ | refine blk_alloc ?_ _)); refine blk_put (cs := #[.int .i64 t284, .slice none 0 0, .slice none 0 0]) ?_ 1 _ rfl; (with_reducible repeat (first | refine blk_drewN ?_ _ | refine blk_drew ?_ | refine blk_alloc ?_ _)); refine blk_put (cs := #[.int .i64 0, .slice none 0 0, .slice none 0 0]) ?_ 0 _ rfl; (with_reducible repeat (first | refine blk_drewN ?_ _ | refine blk_drew ?_ | refine blk_alloc ?_ _)); exact BK292.out) hb); have n5_ := Aside0.mk (below_step (by repeat (first | (with_reducible first | exact HB.out | apply below_alloc | apply pw_below_drewN | apply below_drew1 | refine below_set ?_ GE274.out | refine below_set ?_ GE292.out) | exact HB.out)) hb); clear HO282; clear HO287; clear HO290; clear BK274; clear BK292; clear HB; have HO282 := n0_; have HO287 := n1_; have HO290 := n2_; have BK274 := n3_; have BK292 := n4_; have HB := n5_; clear n0_ n1_ n2_ n3_ n4_ n5_; (try clear hb); (try clear hb2); (try clear hk); (try clear hi)))
         go_ret3
         exact ⟨_, by first | rfl | (simp [errW_none, errW_some] <;> rfl) | (simp [*, errW_none, errW_some] <;> rfl), by (with_reducible repeat (first | apply Kd.R_alloc | apply Kd.R_drewN | apply Kd.R_drew)); exact Kd.R_mono HO282.out (fun _ hk => trivial), by repeat (first | (with_reducible first | exact HB.out | apply below_alloc | apply pw_below_drewN | apply below_drew1 | refine below_set ?_ GE274.out | refine below_set ?_ GE292.out) | exact HB.out)⟩
        ·replace c15 := Bool.eq_false_iff.mpr c15
         subst c15
         have H1 : (some (([] : List Int), 0, 2)) = some (r1, r2, r3) := by rw [if_neg (show ¬ (false = true) by decide)] at H; exact H
         clear H
         have H := H1
         clear H1
         simp only [Option.some.injEq, Prod.mk.injEq] at H
         obtain ⟨rfl, rfl, rfl⟩ := H
         go_wp2_with (first | ((with_reducible refine gate_dst (N := 20) rfl ?_); refine Kd.R_lit (Kd.int .u8) _ 5 ?hg (N := 20) ?hd (xs := ([] : List Int)) (inner := []) (ok := fun _ => True) (okp := fun _ => True) ?hr ?hp (fun _ hk => hk) trivial (Below.refl _ _) (Nat.le_refl _) (by simp) ?_; (case hd => rfl); (case hg => rfl); (case hr => first | (go_simp; done) | (go_simp; rfl)); (case hp => exact (Reps.none _ _)); intro v277 w31 ho32 hb hg_ hnew_; clear hg_ hnew_; (first | rw [← Ny276.out] at ho32 | (simp only [Int.reduceToNat] at ho32; rw [← Ny276.out] at ho32)); have n0_ := Aside0.mk (Kd.R_lower ho32 (below_size (by repeat (first | (with_reducible first | exact HB.out | apply below_alloc | apply pw_below_drewN | apply below_drew1 | refine below_set ?_ GE274.out) | exact HB.out)))); have n1_ := Aside0.mk (blk_below (g := gb274) (o := .cells #[.int .i64 a0_0, .slice A0_1 l0_1.length c0_1, .slice A0_2 l0_2.length c0_2] 25 (0, 0)) (by (with_reducible repeat (first | refine blk_drewN ?_ _ | refine blk_drew ?_ | refine blk_alloc ?_ _)); exact BK274.out) hb); have n2_ := Aside0.mk (below_step (by repeat (first | (with_reducible first | exact HB.out | apply below_alloc | apply pw_below_drewN | apply below_drew1 | refine below_set ?_ GE274.out) | exact HB.out)) hb); clear BK274; clear HB; have HO278 := n0_; have BK274 := n1_; have HB := n2_; clear n0_ n1_ n2_; clear hb ho32; have hcz33_0 : w31.cell? ⟨gb274, 0, none⟩ = some (.int .i64 a0_0) := (blk_cell BK274.out 0).trans rfl; have hcz33_1 : w31.cell? ⟨gb274, 1, none⟩ = some (.slice A0_1 l0_1.length c0_1) := (blk_cell BK274.out 1).trans rfl; have hcz33_2 : w31.cell? ⟨gb274, 2, none⟩ = some (.slice A0_2 l0_2.length c0_2) := (blk_cell BK274.out 2).trans rfl; have hfz33_0 := blk_frozen BK274.out 0; have hfz33_1 := blk_frozen BK274.out 1; have hfz33_2 := blk_frozen BK274.out 2; obtain ⟨i034, hi034, _, hsz34, _⟩ := info_parts info5; obtain ⟨A34, hcut34, hA34, hC34⟩ := print_drop_of (P := Try.prog) (Value.int .u8) 0 22 5 .i64 Try.underlying22 hi034 hsz34 A0_1 c0_1 l0_1 1 (by omega) (of_decide_eq_true (by first | (with_reducible assumption) | assumption)) HC0_1.out; have HR279 := Aside0.mk (Kd.C_of_reads (h1 := fun _ => rfl) (hA34 _ (Kd.reads_of_C HR0_1.out))); have HC279 := Aside0.mk hC34; clear hA34 hC34 hi034 hsz34) | ((with_reducible refine gate_builtin (b := .append) (xs := #[.tmp 20, .tmp 23]) rfl ?_); at_builtin; refine Kd.R_append_rows (Kd.int .u8) (w0 := w) w.heap.size rfl (.tmp 20) (.tmp 23) 22 5 (.int .u8 0) 1 rfl Try.underlying22 info5 rfl (by decide) (by omega) v277 y276 (l0_1.drop 1) _ _ _ (fun _ => True) (fun _ => False) rfl rfl ?aO ?aR (fun _ _ h => h) (fun _ h => h.elim) ?aF ?aB ?aS ?aL ?_; (case aR => first | (rw [← show (l0_1.drop 1).length = (l0_1.length - 1) from List.length_drop]; repeat (first | exact (Kd.C_below HR279.out HB.out) | (with_reducible refine Kd.C_alloc ?_ _) | (with_reducible refine Kd.C_drewN ?_ _) | (with_reducible refine Kd.C_drew ?_))) | (repeat (first | exact (Kd.C_below HR279.out HB.out) | (with_reducible refine Kd.C_alloc ?_ _) | (with_reducible refine Kd.C_drewN ?_ _) | (with_reducible refine Kd.C_drew ?_)))); (case aB => exact (by repeat (first | (with_reducible first | exact HB.out | apply below_alloc | apply pw_below_drewN | apply below_drew1 | refine below_set ?_ GE274.out) | exact HB.out))); (case aF => exact (fun _ _ => trivial)); (case aO => exact (by (with_reducible repeat (first | apply Kd.R_alloc | apply Kd.R_drewN | apply Kd.R_drew)); exact HO278.out)); (case aS => exact (below_size (by repeat (first | (with_reducible first | exact HB.out | apply below_alloc | apply pw_below_drewN | apply below_drew1 | refine below_set ?_ GE274.out) | exact HB.out)))); (case aL => have := LMc10.out; have hlx_ := (show (l0_1.drop 1).length = (l0_1.length - 1) from List.length_drop); omega); intro v281 w35 ho hb hg hat; rw [← Ny280.out] at ho; have n0_ := Aside0.mk (blk_grown (g := gb274) (o := .cells #[.int .i64 a0_0, .slice A0_1 l0_1.length c0_1, .slice A0_2 l0_2.length c0_2] 25 (0, 0)) (by (with_reducible repeat (first | refine blk_drewN ?_ _ | refine blk_drew ?_ | refine blk_alloc ?_ _)); exact BK274.out) hg (Kd.R_ne HO278.out BK274.out (by decide))); have n1_ := Aside0.mk (hb); have n2_ := Aside0.mk (ho); clear BK274; clear HB; clear HO278; have BK274 := n0_; have HB := n1_; have HO282 := n2_; clear n0_ n1_ n2_; clear ho hb hg hat; obtain ⟨Ao36, co36, eo36⟩ := Kd.R_slice HO282.out; subst eo36; have hcz37_0 : w35.cell? ⟨gb274, 0, none⟩ = some (.int .i64 a0_0) := (blk_cell BK274.out 0).trans rfl; have hcz37_1 : w35.cell? ⟨gb274, 1, none⟩ = some (.slice A0_1 l0_1.length c0_1) := (blk_cell BK274.out 1).trans rfl; have hcz37_2 : w35.cell? ⟨gb274, 2, none⟩ = some (.slice A0_2 l0_2.length c0_2) := (blk_cell BK274.out 2).trans rfl; have hfz37_0 := blk_frozen BK274.out 0; have hfz37_1 := blk_frozen BK274.out 1; have hfz37_2 := blk_frozen BK274.out 2; have p283 : 0 ≤ (0 : Int) := (by omega); have q283 : 0 < (l0_1.length : Int) := of_decide_eq_true (by first | (with_reducible assumption) | assumption); obtain ⟨ad283, e283, hx283_0⟩ := Kd.at_int HR0_1.out 0 p283 q283; cases e283; have qi283 : (0 < l0_1.length) = True := eq_true (by omega); (try rw [show ((0 : Int)).toNat = 0 from rfl] at hx283_0); (try rw [Addr.add_zero'] at hx283_0); replace hx283_0 := (HB.out.cell (World.block_lt_of_cell? w _ hx283_0)).trans hx283_0; replace p283 := eq_true p283; replace q283 := eq_true q283) | ((with_reducible refine gate_callee (f := 16) rfl ?_); refine goesL_ (some 37) rfl rfl Try.func16 (by kernel_rfl) rfl #[.slice Ao36 y280.length co36, .int .i64 (wrap64 ((wrap64 (8 * (y280.length : Int))) - (wrap64 (rd l0_1 0))))] rfl (by (try simp only [List.map_toArray, List.map_cons, List.map_nil]); first | done | rfl | (simp only [List.length_drop, List.length_take]; rfl)) ?_; (with_reducible refine (lanyardref05_Bits.calls kj1 _ _ y280 (wrap64 ((wrap64 (8 * (y280.length : Int))) - (wrap64 (rd l0_1 0)))) t284 t285 t288 t291 _ ?side1 ?side2 A12.out).mono ?_); (case side1 => repeat (first | exact (Kd.R_reads' HO282.out).2.2 | (with_reducible refine Kd.C_alloc ?_ _) | (with_reducible refine Kd.C_drewN ?_ _) | (with_reducible refine Kd.C_drew ?_))); (case side2 => exact (Kd.R_reads' HO282.out).2.1); rintro e w38 ⟨v286, v289, rfl, ho0, ho1, hb⟩; refine ⟨_, rfl, ?_⟩; have n0_ := Aside0.mk (Kd.R_elder' (by (with_reducible repeat (first | apply Kd.R_alloc | apply Kd.R_drewN | apply Kd.R_drew)); exact HO282.out) (Kd.R_base ho0) hb); have n1_ := Aside0.mk (Kd.R_lower (Kd.R_new' ho0 (Kd.R_lt (by (with_reducible repeat (first | apply Kd.R_alloc | apply Kd.R_drewN | apply Kd.R_drew)); exact HO282.out))) (below_size (by repeat (first | (with_reducible first | exact HB.out | apply below_alloc | apply pw_below_drewN | apply below_drew1 | refine below_set ?_ GE274.out) | exact HB.out)))); have n2_ := Aside0.mk (Kd.R_lower (Kd.R_newB (Kd.R_new' ho1 (Kd.R_lt (by (with_reducible repeat (first | apply Kd.R_alloc | apply Kd.R_drewN | apply Kd.R_drew)); exact HO282.out))) (g := gb274) (o := .cells #[.int .i64 a0_0, .slice (some ad283) l0_1.length c0_1, .slice A0_2 l0_2.length c0_2] 25 (0, 0)) (by (with_reducible repeat (first | refine blk_drewN ?_ _ | refine blk_drew ?_ | refine blk_alloc ?_ _)); exact BK274.out)) (below_size (by repeat (first | (with_reducible first | exact HB.out | apply below_alloc | apply pw_below_drewN | apply below_drew1 | refine below_set ?_ GE274.out) | exact HB.out)))); have n3_ := Aside0.mk (blk_below (g := gb274) (o := .cells #[.int .i64 a0_0, .slice (some ad283) l0_1.length c0_1, .slice A0_2 l0_2.length c0_2] 25 (0, 0)) (by (with_reducible repeat (first | refine blk_drewN ?_ _ | refine blk_drew ?_ | refine blk_alloc ?_ _)); exact BK274.out) hb); have n4_ := Aside0.mk (below_step (by repeat (first | (with_reducible first | exact HB.out | apply below_alloc | apply pw_below_drewN | apply below_drew1 | refine below_set ?_ GE274.out) | exact HB.out)) hb); clear HO282; clear BK274; clear HB; have HO282 := n0_; have HO287 := n1_; have HO290 := n2_; have BK274 := n3_; have HB := n4_; clear n0_ n1_ n2_ n3_ n4_; (try clear hb); (try clear hb2); (try clear hk); (try clear hi); (try clear ho0); (try clear ho1)) | ((with_reducible refine gate_dst (N := 7) rfl ?_); refine box_event ?hg (N := 7) ?hd (cs := #[.int .i64 0, .slice none 0 0, .slice none 0 0]) (t := 25) ?hr ?_; (case hd => rfl); (case hg => rfl); (case hr => first | (go_simp; done) | (go_simp; rfl)); intro gb292 hg w39 hbox hb; have n0_ := Aside0.mk (Kd.R_below (by (with_reducible repeat (first | apply Kd.R_alloc | apply Kd.R_drewN | apply Kd.R_drew)); exact HO282.out) hb); have n1_ := Aside0.mk (Kd.R_below (by (with_reducible repeat (first | apply Kd.R_alloc | apply Kd.R_drewN | apply Kd.R_drew)); exact HO287.out) hb); have n2_ := Aside0.mk (Kd.R_below (Kd.R_elderB (by (with_reducible repeat (first | apply Kd.R_alloc | apply Kd.R_drewN | apply Kd.R_drew)); exact HO290.out) gb292 (Nat.le_of_eq hg.symm)) hb); have n3_ := Aside0.mk (blk_below (g := gb274) (o := .cells #[.int .i64 a0_0, .slice (some ad283) l0_1.length c0_1, .slice A0_2 l0_2.length c0_2] 25 (0, 0)) (by (with_reducible repeat (first | refine blk_drewN ?_ _ | refine blk_drew ?_ | refine blk_alloc ?_ _)); exact BK274.out) hb); have n4_ := Aside0.mk (below_step (by repeat (first | (with_reducible first | exact HB.out | apply below_alloc | apply pw_below_drewN | apply below_drew1 | refine below_set ?_ GE274.out) | exact HB.out)) hb); have n5_ := Aside0.mk (hbox); have n6_ := Aside0.mk ((by rw [hg]; exact (below_size (by repeat (first | (with_reducible first | exact HB.out | apply below_alloc | apply pw_below_drewN | apply below_drew1 | refine below_set ?_ GE274.out) | exact HB.out))) : w.heap.size ≤ gb292)); have n7_ := Aside0.mk ((by rw [hg]; exact (below_size (by repeat (first | (with_reducible first | exact HB.out | apply below_alloc | apply pw_below_drewN | apply below_drew1 | refine below_set ?_ GE274.out) | exact HB.out))) : w.heap.size ≤ gb292)); have n8_ := Aside0.mk ((by rw [hg]; exact Nat.ne_of_lt (blk_lt (g := gb274) (o := .cells #[.int .i64 a0_0, .slice (some ad283) l0_1.length c0_1, .slice A0_2 l0_2.length c0_2] 25 (0, 0)) (by (with_reducible repeat (first | refine blk_drewN ?_ _ | refine blk_drew ?_ | refine blk_alloc ?_ _)); exact BK274.out)) : gb274 ≠ gb292)); have n9_ := Aside0.mk ((by rw [hg]; exact Nat.ne_of_gt (blk_lt (g := gb274) (o := .cells #[.int .i64 a0_0, .slice (some ad283) l0_1.length c0_1, .slice A0_2 l0_2.length c0_2] 25 (0, 0)) (by (with_reducible repeat (first | refine blk_drewN ?_ _ | refine blk_drew ?_ | refine blk_alloc ?_ _)); exact BK274.out)) : gb292 ≠ gb274)); clear HO282; clear HO287; clear HO290; clear BK274; clear HB; have HO282 := n0_; have HO287 := n1_; have HO290 := n2_; have BK274 := n3_; have HB := n4_; have BK292 := n5_; have GW292 := n6_; have GE292 := n7_; have NB274_292 := n8_; have NB292_274 := n9_; clear n0_ n1_ n2_ n3_ n4_ n5_ n6_ n7_ n8_ n9_; clear hb hbox hg; have hnb40 := NB292_274.out; have hnc40 := NB274_292.out; have hcz41_0 : w39.cell? ⟨gb292, 0, none⟩ = some (.int .i64 0) := (blk_cell BK292.out 0).trans rfl; have hcz41_1 : w39.cell? ⟨gb292, 1, none⟩ = some (.slice none 0 0) := (blk_cell BK292.out 1).trans rfl; have hcz41_2 : w39.cell? ⟨gb292, 2, none⟩ = some (.slice none 0 0) := (blk_cell BK292.out 2).trans rfl; have hfz41_0 := blk_frozen BK292.out 0; have hfz41_1 := blk_frozen BK292.out 1; have hfz41_2 := blk_frozen BK292.out 2; obtain ⟨Ao42, co42, eo42⟩ := Kd.R_slice HO287.out; subst eo42; obtain ⟨Ao43, co43, eo43⟩ := Kd.R_slice HO290.out; subst eo43; have hcz44_0 : w39.cell? ⟨gb274, 0, none⟩ = some (.int .i64 a0_0) := (blk_cell BK274.out 0).trans rfl; have hcz44_1 : w39.cell? ⟨gb274, 1, none⟩ = some (.slice (some ad283) l0_1.length c0_1) := (blk_cell BK274.out 1).trans rfl; have hcz44_2 : w39.cell? ⟨gb274, 2, none⟩ = some (.slice A0_2 l0_2.length c0_2) := (blk_cell BK274.out 2).trans rfl; have hfz44_0 := blk_frozen BK274.out 0; have hfz44_1 := blk_frozen BK274.out 1; have hfz44_2 := blk_frozen BK274.out 2) | (go_at_call 11; (with_reducible refine (lanyardref04_Same.calls kj1 t284 _ _ t285 _ _ t288 a0_0 _ _ l0_1 _ _ l0_2 false _ ?side1 ?side2 ?side3 ?side4 ?side5 ?side6 ?side7 ?side8 A14.out).mono ?_); (case side1 => refine (Kd.R_reads' (e := 5) (base := w.heap.size) (ok := fun k_ => (True ∧ some k_ ≠ (.slice Ao36 y280.length co36 : Value).ownBlock)) (n := t285.length) (c := co42) ?_).2.2; exact (by (with_reducible repeat (first | apply Kd.R_alloc | apply Kd.R_drewN | apply Kd.R_drew)); exact (Kd.R_mono (Kd.R_far (p := ⟨gb292, 2, none⟩) (Kd.R_far (p := ⟨gb292, 1, none⟩) (Kd.R_far (p := ⟨gb292, 0, none⟩) (Kd.R_types HO287.out BK292.out (by decide)) (fun _ hk => hk.2) (.int .i64 t284)) (fun _ hk => hk.2) (.slice Ao42 t285.length co42)) (fun _ hk => hk.2) (.slice Ao43 t288.length co43)) (fun _ h_ => h_.1)))); (case side2 => exact (Kd.R_reads' HO287.out).2.1); (case side3 => refine (Kd.R_reads' (e := 25) (base := w.heap.size) (ok := fun k_ => (((some k_ ≠ (.slice Ao42 t285.length co42 : Value).ownBlock ∧ some k_ ≠ (.slice Ao36 y280.length co36 : Value).ownBlock) ∧ k_ ≠ gb274) ∧ k_ ≠ gb292)) (n := t288.length) (c := co43) ?_).2.2; exact (by (with_reducible repeat (first | apply Kd.R_alloc | apply Kd.R_drewN | apply Kd.R_drew)); exact (Kd.R_mono (Kd.R_far (p := ⟨gb292, 2, none⟩) (Kd.R_far (p := ⟨gb292, 1, none⟩) (Kd.R_far (p := ⟨gb292, 0, none⟩) (Kd.R_mono HO290.out (fun k_ hk => (⟨hk, hk.2⟩ : _ ∧ k_ ≠ gb292))) (fun _ hk => hk.2) (.int .i64 t284)) (fun _ hk => hk.2) (.slice Ao42 t285.length co42)) (fun _ hk => hk.2) (.slice Ao43 t288.length co43)) (fun _ h_ => h_.1)))); (case side4 => exact (Kd.R_reads' HO290.out).2.1); (case side5 => exact Kd.C_below HR0_1.out (by repeat (first | (with_reducible first | exact HB.out | apply below_alloc | apply pw_below_drewN | apply below_drew1 | refine below_set ?_ GE274.out | refine below_set ?_ GE292.out) | exact HB.out))); (case side6 => exact HC0_1.out); (case side7 => exact Kd.C_below HR0_2.out (by repeat (first | (with_reducible first | exact HB.out | apply below_alloc | apply pw_below_drewN | apply below_drew1 | refine below_set ?_ GE274.out | refine below_set ?_ GE292.out) | exact HB.out))); (case side8 => exact HC0_2.out); rintro e w45 ⟨rfl, hb⟩; have n0_ := Aside0.mk (Kd.R_below (by (with_reducible repeat (first | apply Kd.R_alloc | apply Kd.R_drewN | apply Kd.R_drew)); exact (Kd.R_mono (Kd.R_far (p := ⟨gb292, 2, none⟩) (Kd.R_far (p := ⟨gb292, 1, none⟩) (Kd.R_far (p := ⟨gb292, 0, none⟩) (Kd.R_types HO282.out BK292.out (by decide)) (fun _ hk => hk.2) (.int .i64 t284)) (fun _ hk => hk.2) (.slice Ao42 t285.length co42)) (fun _ hk => hk.2) (.slice Ao43 t288.length co43)) (fun _ h_ => h_.1))) hb); have n1_ := Aside0.mk (Kd.R_below (by (with_reducible repeat (first | apply Kd.R_alloc | apply Kd.R_drewN | apply Kd.R_drew)); exact (Kd.R_mono (Kd.R_far (p := ⟨gb292, 2, none⟩) (Kd.R_far (p := ⟨gb292, 1, none⟩) (Kd.R_far (p := ⟨gb292, 0, none⟩) (Kd.R_types HO287.out BK292.out (by decide)) (fun _ hk => hk.2) (.int .i64 t284)) (fun _ hk => hk.2) (.slice Ao42 t285.length co42)) (fun _ hk => hk.2) (.slice Ao43 t288.length co43)) (fun _ h_ => h_.1))) hb); have n2_ := Aside0.mk (Kd.R_below (by (with_reducible repeat (first | apply Kd.R_alloc | apply Kd.R_drewN | apply Kd.R_drew)); exact (Kd.R_mono (Kd.R_far (p := ⟨gb292, 2, none⟩) (Kd.R_far (p := ⟨gb292, 1, none⟩) (Kd.R_far (p := ⟨gb292, 0, none⟩) (Kd.R_mono HO290.out (fun k_ hk => (⟨hk, hk.2⟩ : _ ∧ k_ ≠ gb292))) (fun _ hk => hk.2) (.int .i64 t284)) (fun _ hk => hk.2) (.slice Ao42 t285.length co42)) (fun _ hk => hk.2) (.slice Ao43 t288.length co43)) (fun _ h_ => h_.1))) hb); have n3_ := Aside0.mk (blk_below (g := gb274) (o := .cells #[.int .i64 a0_0, .slice (some ad283) l0_1.length c0_1, .slice A0_2 l0_2.length c0_2] 25 (0, 0)) (by (with_reducible repeat (first | refine blk_drewN ?_ _ | refine blk_drew ?_ | refine blk_alloc ?_ _)); refine blk_far ?_ NB274_292.out _; (with_reducible repeat (first | refine blk_drewN ?_ _ | refine blk_drew ?_ | refine blk_alloc ?_ _)); refine blk_far ?_ NB274_292.out _; (with_reducible repeat (first | refine blk_drewN ?_ _ | refine blk_drew ?_ | refine blk_alloc ?_ _)); refine blk_far ?_ NB274_292.out _; (with_reducible repeat (first | refine blk_drewN ?_ _ | refine blk_drew ?_ | refine blk_alloc ?_ _)); exact BK274.out) hb); have n4_ := Aside0.mk (blk_below (g := gb292) (o := .cells #[.int .i64 t284, .slice Ao42 t285.length co42, .slice Ao43 t288.length co43] 25 (0, 0)) (by (with_reducible repeat (first | refine blk_drewN ?_ _ | refine blk_drew ?_ | refine blk_alloc ?_ _)); refine blk_put (cs := #[.int .i64 t284, .slice Ao42 t285.length co42, .slice none 0 0]) ?_ 2 _ rfl; (with_reducible repeat (first | refine blk_drewN ?_ _ | refine blk_drew ?_ | refine blk_alloc ?_ _)); refine blk_put (cs := #[.int .i64 t284, .slice none 0 0, .slice none 0 0]) ?_ 1 _ rfl; (with_reducible repeat (first | refine blk_drewN ?_ _ | refine blk_drew ?_ | refine blk_alloc ?_ _)); refine blk_put (cs := #[.int .i64 0, .slice none 0 0, .slice none 0 0]) ?_ 0 _ rfl; (with_reducible repeat (first | refine blk_drewN ?_ _ | refine blk_drew ?_ | refine blk_alloc ?_ _)); exact BK292.out) hb); have n5_ := Aside0.mk (below_step (by repeat (first | (with_reducible first | exact HB.out | apply below_alloc | apply pw_below_drewN | apply below_drew1 | refine below_set ?_ GE274.out | refine below_set ?_ GE292.out) | exact HB.out)) hb); clear HO282; clear HO287; clear HO290; clear BK274; clear BK292; clear HB; have HO282 := n0_; have HO287 := n1_; have HO290 := n2_; have BK274 := n3_; have BK292 := n4_; have HB := n5_; clear n0_ n1_ n2_ n3_ n4_ n5_; (try clear hb); (try clear hb2); (try clear hk); (try clear hi)))
         go_ret3
         exact ⟨_, by first | rfl | (simp [errW_none, errW_some] <;> rfl) | (simp [*, errW_none, errW_some] <;> rfl), by first | exact Kd.R_nil _ _ _ _ _ | exact Kd.N_nil _ _ _ _ _ | exact Kd.V_nil _ _ _ _ _ | exact Kd.Q_nil _ _ _ _ _ | exact Kd.S_nil _ _ _ _ _, by repeat (first | (with_reducible first | exact HB.out | apply below_alloc | apply pw_below_drewN | apply below_drew1 | refine below_set ?_ GE274.out | refine below_set ?_ GE292.out) | exact HB.out)⟩
       ·rw [if_neg c13] at H
        have c13b0 : (t291 == 0) = false := beq_eq_false_iff_ne.mpr c13
        have c13b1 : (t291 != 0) = true := bne_iff_ne.mpr c13
        simp only [Option.some.injEq, Prod.mk.injEq] at H
        obtain ⟨rfl, rfl, rfl⟩ := H
        go_wp2_with (first | ((with_reducible refine gate_dst (N := 20) rfl ?_); refine Kd.R_lit (Kd.int .u8) _ 5 ?hg (N := 20) ?hd (xs := ([] : List Int)) (inner := []) (ok := fun _ => True) (okp := fun _ => True) ?hr ?hp (fun _ hk => hk) trivial (Below.refl _ _) (Nat.le_refl _) (by simp) ?_; (case hd => rfl); (case hg => rfl); (case hr => first | (go_simp; done) | (go_simp; rfl)); (case hp => exact (Reps.none _ _)); intro v277 w46 ho47 hb hg_ hnew_; clear hg_ hnew_; (first | rw [← Ny276.out] at ho47 | (simp only [Int.reduceToNat] at ho47; rw [← Ny276.out] at ho47)); have n0_ := Aside0.mk (Kd.R_lower ho47 (below_size (by repeat (first | (with_reducible first | exact HB.out | apply below_alloc | apply pw_below_drewN | apply below_drew1 | refine below_set ?_ GE274.out) | exact HB.out)))); have n1_ := Aside0.mk (blk_below (g := gb274) (o := .cells #[.int .i64 a0_0, .slice A0_1 l0_1.length c0_1, .slice A0_2 l0_2.length c0_2] 25 (0, 0)) (by (with_reducible repeat (first | refine blk_drewN ?_ _ | refine blk_drew ?_ | refine blk_alloc ?_ _)); exact BK274.out) hb); have n2_ := Aside0.mk (below_step (by repeat (first | (with_reducible first | exact HB.out | apply below_alloc | apply pw_below_drewN | apply below_drew1 | refine below_set ?_ GE274.out) | exact HB.out)) hb); clear BK274; clear HB; have HO278 := n0_; have BK274 := n1_; have HB := n2_; clear n0_ n1_ n2_; clear hb ho47; have hcz48_0 : w46.cell? ⟨gb274, 0, none⟩ = some (.int .i64 a0_0) := (blk_cell BK274.out 0).trans rfl; have hcz48_1 : w46.cell? ⟨gb274, 1, none⟩ = some (.slice A0_1 l0_1.length c0_1) := (blk_cell BK274.out 1).trans rfl; have hcz48_2 : w46.cell? ⟨gb274, 2, none⟩ = some (.slice A0_2 l0_2.length c0_2) := (blk_cell BK274.out 2).trans rfl; have hfz48_0 := blk_frozen BK274.out 0; have hfz48_1 := blk_frozen BK274.out 1; have hfz48_2 := blk_frozen BK274.out 2; obtain ⟨i049, hi049, _, hsz49, _⟩ := info_parts info5; obtain ⟨A49, hcut49, hA49, hC49⟩ := print_drop_of (P := Try.prog) (Value.int .u8) 0 22 5 .i64 Try.underlying22 hi049 hsz49 A0_1 c0_1 l0_1 1 (by omega) (of_decide_eq_true (by first | (with_reducible assumption) | assumption)) HC0_1.out; have HR279 := Aside0.mk (Kd.C_of_reads (h1 := fun _ => rfl) (hA49 _ (Kd.reads_of_C HR0_1.out))); have HC279 := Aside0.mk hC49; clear hA49 hC49 hi049 hsz49) | ((with_reducible refine gate_builtin (b := .append) (xs := #[.tmp 20, .tmp 23]) rfl ?_); at_builtin; refine Kd.R_append_rows (Kd.int .u8) (w0 := w) w.heap.size rfl (.tmp 20) (.tmp 23) 22 5 (.int .u8 0) 1 rfl Try.underlying22 info5 rfl (by decide) (by omega) v277 y276 (l0_1.drop 1) _ _ _ (fun _ => True) (fun _ => False) rfl rfl ?aO ?aR (fun _ _ h => h) (fun _ h => h.elim) ?aF ?aB ?aS ?aL ?_; (case aR => first | (rw [← show (l0_1.drop 1).length = (l0_1.length - 1) from List.length_drop]; repeat (first | exact (Kd.C_below HR279.out HB.out) | (with_reducible refine Kd.C_alloc ?_ _) | (with_reducible refine Kd.C_drewN ?_ _) | (with_reducible refine Kd.C_drew ?_))) | (repeat (first | exact (Kd.C_below HR279.out HB.out) | (with_reducible refine Kd.C_alloc ?_ _) | (with_reducible refine Kd.C_drewN ?_ _) | (with_reducible refine Kd.C_drew ?_)))); (case aB => exact (by repeat (first | (with_reducible first | exact HB.out | apply below_alloc | apply pw_below_drewN | apply below_drew1 | refine below_set ?_ GE274.out) | exact HB.out))); (case aF => exact (fun _ _ => trivial)); (case aO => exact (by (with_reducible repeat (first | apply Kd.R_alloc | apply Kd.R_drewN | apply Kd.R_drew)); exact HO278.out)); (case aS => exact (below_size (by repeat (first | (with_reducible first | exact HB.out | apply below_alloc | apply pw_below_drewN | apply below_drew1 | refine below_set ?_ GE274.out) | exact HB.out)))); (case aL => have := LMc10.out; have hlx_ := (show (l0_1.drop 1).length = (l0_1.length - 1) from List.length_drop); omega); intro v281 w50 ho hb hg hat; rw [← Ny280.out] at ho; have n0_ := Aside0.mk (blk_grown (g := gb274) (o := .cells #[.int .i64 a0_0, .slice A0_1 l0_1.length c0_1, .slice A0_2 l0_2.length c0_2] 25 (0, 0)) (by (with_reducible repeat (first | refine blk_drewN ?_ _ | refine blk_drew ?_ | refine blk_alloc ?_ _)); exact BK274.out) hg (Kd.R_ne HO278.out BK274.out (by decide))); have n1_ := Aside0.mk (hb); have n2_ := Aside0.mk (ho); clear BK274; clear HB; clear HO278; have BK274 := n0_; have HB := n1_; have HO282 := n2_; clear n0_ n1_ n2_; clear ho hb hg hat; obtain ⟨Ao51, co51, eo51⟩ := Kd.R_slice HO282.out; subst eo51; have hcz52_0 : w50.cell? ⟨gb274, 0, none⟩ = some (.int .i64 a0_0) := (blk_cell BK274.out 0).trans rfl; have hcz52_1 : w50.cell? ⟨gb274, 1, none⟩ = some (.slice A0_1 l0_1.length c0_1) := (blk_cell BK274.out 1).trans rfl; have hcz52_2 : w50.cell? ⟨gb274, 2, none⟩ = some (.slice A0_2 l0_2.length c0_2) := (blk_cell BK274.out 2).trans rfl; have hfz52_0 := blk_frozen BK274.out 0; have hfz52_1 := blk_frozen BK274.out 1; have hfz52_2 := blk_frozen BK274.out 2; have p283 : 0 ≤ (0 : Int) := (by omega); have q283 : 0 < (l0_1.length : Int) := of_decide_eq_true (by first | (with_reducible assumption) | assumption); obtain ⟨ad283, e283, hx283_0⟩ := Kd.at_int HR0_1.out 0 p283 q283; cases e283; have qi283 : (0 < l0_1.length) = True := eq_true (by omega); (try rw [show ((0 : Int)).toNat = 0 from rfl] at hx283_0); (try rw [Addr.add_zero'] at hx283_0); replace hx283_0 := (HB.out.cell (World.block_lt_of_cell? w _ hx283_0)).trans hx283_0; replace p283 := eq_true p283; replace q283 := eq_true q283) | ((with_reducible refine gate_callee (f := 16) rfl ?_); refine goesL_ (some 37) rfl rfl Try.func16 (by kernel_rfl) rfl #[.slice Ao51 y280.length co51, .int .i64 (wrap64 ((wrap64 (8 * (y280.length : Int))) - (wrap64 (rd l0_1 0))))] rfl (by (try simp only [List.map_toArray, List.map_cons, List.map_nil]); first | done | rfl | (simp only [List.length_drop, List.length_take]; rfl)) ?_; (with_reducible refine (lanyardref05_Bits.calls kj1 _ _ y280 (wrap64 ((wrap64 (8 * (y280.length : Int))) - (wrap64 (rd l0_1 0)))) t284 t285 t288 t291 _ ?side1 ?side2 A12.out).mono ?_); (case side1 => repeat (first | exact (Kd.R_reads' HO282.out).2.2 | (with_reducible refine Kd.C_alloc ?_ _) | (with_reducible refine Kd.C_drewN ?_ _) | (with_reducible refine Kd.C_drew ?_))); (case side2 => exact (Kd.R_reads' HO282.out).2.1); rintro e w53 ⟨v286, v289, rfl, ho0, ho1, hb⟩; refine ⟨_, rfl, ?_⟩; have n0_ := Aside0.mk (Kd.R_elder' (by (with_reducible repeat (first | apply Kd.R_alloc | apply Kd.R_drewN | apply Kd.R_drew)); exact HO282.out) (Kd.R_base ho0) hb); have n1_ := Aside0.mk (Kd.R_lower (Kd.R_new' ho0 (Kd.R_lt (by (with_reducible repeat (first | apply Kd.R_alloc | apply Kd.R_drewN | apply Kd.R_drew)); exact HO282.out))) (below_size (by repeat (first | (with_reducible first | exact HB.out | apply below_alloc | apply pw_below_drewN | apply below_drew1 | refine below_set ?_ GE274.out) | exact HB.out)))); have n2_ := Aside0.mk (Kd.R_lower (Kd.R_newB (Kd.R_new' ho1 (Kd.R_lt (by (with_reducible repeat (first | apply Kd.R_alloc | apply Kd.R_drewN | apply Kd.R_drew)); exact HO282.out))) (g := gb274) (o := .cells #[.int .i64 a0_0, .slice (some ad283) l0_1.length c0_1, .slice A0_2 l0_2.length c0_2] 25 (0, 0)) (by (with_reducible repeat (first | refine blk_drewN ?_ _ | refine blk_drew ?_ | refine blk_alloc ?_ _)); exact BK274.out)) (below_size (by repeat (first | (with_reducible first | exact HB.out | apply below_alloc | apply pw_below_drewN | apply below_drew1 | refine below_set ?_ GE274.out) | exact HB.out)))); have n3_ := Aside0.mk (blk_below (g := gb274) (o := .cells #[.int .i64 a0_0, .slice (some ad283) l0_1.length c0_1, .slice A0_2 l0_2.length c0_2] 25 (0, 0)) (by (with_reducible repeat (first | refine blk_drewN ?_ _ | refine blk_drew ?_ | refine blk_alloc ?_ _)); exact BK274.out) hb); have n4_ := Aside0.mk (below_step (by repeat (first | (with_reducible first | exact HB.out | apply below_alloc | apply pw_below_drewN | apply below_drew1 | refine below_set ?_ GE274.out) | exact HB.out)) hb); clear HO282; clear BK274; clear HB; have HO282 := n0_; have HO287 := n1_; have HO290 := n2_; have BK274 := n3_; have HB := n4_; clear n0_ n1_ n2_ n3_ n4_; (try clear hb); (try clear hb2); (try clear hk); (try clear hi); (try clear ho0); (try clear ho1)) | ((with_reducible refine gate_dst (N := 7) rfl ?_); refine box_event ?hg (N := 7) ?hd (cs := #[.int .i64 0, .slice none 0 0, .slice none 0 0]) (t := 25) ?hr ?_; (case hd => rfl); (case hg => rfl); (case hr => first | (go_simp; done) | (go_simp; rfl)); intro gb292 hg w54 hbox hb; have n0_ := Aside0.mk (Kd.R_below (by (with_reducible repeat (first | apply Kd.R_alloc | apply Kd.R_drewN | apply Kd.R_drew)); exact HO282.out) hb); have n1_ := Aside0.mk (Kd.R_below (by (with_reducible repeat (first | apply Kd.R_alloc | apply Kd.R_drewN | apply Kd.R_drew)); exact HO287.out) hb); have n2_ := Aside0.mk (Kd.R_below (Kd.R_elderB (by (with_reducible repeat (first | apply Kd.R_alloc | apply Kd.R_drewN | apply Kd.R_drew)); exact HO290.out) gb292 (Nat.le_of_eq hg.symm)) hb); have n3_ := Aside0.mk (blk_below (g := gb274) (o := .cells #[.int .i64 a0_0, .slice (some ad283) l0_1.length c0_1, .slice A0_2 l0_2.length c0_2] 25 (0, 0)) (by (with_reducible repeat (first | refine blk_drewN ?_ _ | refine blk_drew ?_ | refine blk_alloc ?_ _)); exact BK274.out) hb); have n4_ := Aside0.mk (below_step (by repeat (first | (with_reducible first | exact HB.out | apply below_alloc | apply pw_below_drewN | apply below_drew1 | refine below_set ?_ GE274.out) | exact HB.out)) hb); have n5_ := Aside0.mk (hbox); have n6_ := Aside0.mk ((by rw [hg]; exact (below_size (by repeat (first | (with_reducible first | exact HB.out | apply below_alloc | apply pw_below_drewN | apply below_drew1 | refine below_set ?_ GE274.out) | exact HB.out))) : w.heap.size ≤ gb292)); have n7_ := Aside0.mk ((by rw [hg]; exact (below_size (by repeat (first | (with_reducible first | exact HB.out | apply below_alloc | apply pw_below_drewN | apply below_drew1 | refine below_set ?_ GE274.out) | exact HB.out))) : w.heap.size ≤ gb292)); have n8_ := Aside0.mk ((by rw [hg]; exact Nat.ne_of_lt (blk_lt (g := gb274) (o := .cells #[.int .i64 a0_0, .slice (some ad283) l0_1.length c0_1, .slice A0_2 l0_2.length c0_2] 25 (0, 0)) (by (with_reducible repeat (first | refine blk_drewN ?_ _ | refine blk_drew ?_ | refine blk_alloc ?_ _)); exact BK274.out)) : gb274 ≠ gb292)); have n9_ := Aside0.mk ((by rw [hg]; exact Nat.ne_of_gt (blk_lt (g := gb274) (o := .cells #[.int .i64 a0_0, .slice (some ad283) l0_1.length c0_1, .slice A0_2 l0_2.length c0_2] 25 (0, 0)) (by (with_reducible repeat (first | refine blk_drewN ?_ _ | refine blk_drew ?_ | refine blk_alloc ?_ _)); exact BK274.out)) : gb292 ≠ gb274)); clear HO282; clear HO287; clear HO290; clear BK274; clear HB; have HO282 := n0_; have HO287 := n1_; have HO290 := n2_; have BK274 := n3_; have HB := n4_; have BK292 := n5_; have GW292 := n6_; have GE292 := n7_; have NB274_292 := n8_; have NB292_274 := n9_; clear n0_ n1_ n2_ n3_ n4_ n5_ n6_ n7_ n8_ n9_; clear hb hbox hg; have hnb55 := NB292_274.out; have hnc55 := NB274_292.out; have hcz56_0 : w54.cell? ⟨gb292, 0, none⟩ = some (.int .i64 0) := (blk_cell BK292.out 0).trans rfl; have hcz56_1 : w54.cell? ⟨gb292, 1, none⟩ = some (.slice none 0 0) := (blk_cell BK292.out 1).trans rfl; have hcz56_2 : w54.cell? ⟨gb292, 2, none⟩ = some (.slice none 0 0) := (blk_cell BK292.out 2).trans rfl; have hfz56_0 := blk_frozen BK292.out 0; have hfz56_1 := blk_frozen BK292.out 1; have hfz56_2 := blk_frozen BK292.out 2; obtain ⟨Ao57, co57, eo57⟩ := Kd.R_slice HO287.out; subst eo57; obtain ⟨Ao58, co58, eo58⟩ := Kd.R_slice HO290.out; subst eo58))
        go_ret3
        exact ⟨_, by first | rfl | (simp [errW_none, errW_some] <;> rfl) | (simp [*, errW_none, errW_some] <;> rfl), by first | exact Kd.R_nil _ _ _ _ _ | exact Kd.N_nil _ _ _ _ _ | exact Kd.V_nil _ _ _ _ _ | exact Kd.Q_nil _ _ _ _ _ | exact Kd.S_nil _ _ _ _ _, by repeat (first | (with_reducible first | exact HB.out | apply below_alloc | apply pw_below_drewN | apply below_drew1 | refine below_set ?_ GE274.out | refine below_set ?_ GE292.out) | exact HB.out)⟩
      ·rw [if_neg c11] at H
       exact absurd H (by simp)
     ·rw [if_neg c10] at H
      exact absurd H (by simp)
    ·rw [if_neg c9] at H
     exact absurd H (by simp)

end Go.Proofs.Ytmbgjhkemlliaaa.PT
end

/- The reference's Oid, Bits, Of: what they come to. -/
section
set_option linter.unusedVariables false
set_option linter.unusedSimpArgs false
namespace Go.Proofs.Ytmbgjhkemlliaaa.Tlv
open Go.RowKit Go.Proofs.YtmbgjhkemlliaaaW.PrintWords Go.Proofs.YtmbgjhkemlliaaaW.PrintLast Go.Proofs.YtmbgjhkemlliaaaW.PrintMore Go.Proofs.Ytmbgjhkemlliaaa.PT

theorem roid_f11 : lanyardref05_Oid.f 100 [1, 2, 840, 113549, 1, 1, 11] = some (6, oidB 11, [], 0) := by kernel_rfl
theorem roid_f1 : lanyardref05_Oid.f 100 [1, 2, 840, 113549, 1, 1, 1] = some (6, oidB 1, [], 0) := by kernel_rfl
theorem shl_ne (h : Int) (h0 : 0 ≤ h) (h1 : h ≤ 7) : ¬ (shl .u8 1 h = 0) := by
 obtain ⟨n, rfl⟩ : ∃ n : Nat, h = n := ⟨h.toNat, by omega⟩
 have : ∀ n : Nat, n ≤ 7 → ¬ (shl .u8 1 (n : Int) = 0) := by decide +kernel
 exact this n (by omega)
theorem bits_up {l : List Int} {a : Int} {r : Int × List Int × List T × Int} {k : Nat} (h : lanyardref05_Bits.f (k + 1) l a = some r) : ∀ j, lanyardref05_Bits.f (k + 1 + j) l a = some r
 | 0 => h
 | j + 1 => lanyardref05_Bits.mono l a (k + 1 + j) r (bits_up h j)
theorem rbits_some (t : List Int) (h : Int) (hh : 0 ≤ h ∧ h ≤ 7) (ht : t.length ≤ 100000) (hb : ∀ v ∈ t, 0 ≤ v ∧ v < 256) (k : Nat) :
 ∃ (r : T) (r4 : Int), lanyardref05_Bits.f (k + 1) t (wrap64 (wrap64 (8 * (t.length : Int)) - h)) = some (r.f0, r.f1, r.f2, r4) ∧ byT r ∧ wT r ≤ 1000000 := by
 have e1 : wrap64 (8 * (t.length : Int)) = 8 * (t.length : Int) := by unfold wrap64; omega
 have e2 : wrap64 (8 * (t.length : Int) - h) = 8 * (t.length : Int) - h := by unfold wrap64; omega
 have e3 : wrap64 (8 * (t.length : Int) - (8 * (t.length : Int) - h)) = h := by unfold wrap64; omega
 have e4 : wrap64 ((t.length : Int) - 1) = (t.length : Int) - 1 := by unfold wrap64; omega
 have hbad : ∃ (r : T) (r4 : Int), lanyardref05_Bits.j0 (k + 1) t (8 * (t.length : Int) - h) true = some (r.f0, r.f1, r.f2, r4) ∧ byT r ∧ wT r ≤ 1000000 := by
  rw [lanyardref05_Bits.j0, if_pos rfl]
  exact ⟨⟨0, [], []⟩, 1, rfl, byT_mk (fun v hv => by cases hv) trivial, by decide⟩
 have hgood : ∀ y : Int, 0 ≤ y ∧ y < 256 → ∃ (r : T) (r4 : Int), some (3, [y] ++ t, ([] : List T), (0 : Int)) = some (r.f0, r.f1, r.f2, r4) ∧ byT r ∧ wT r ≤ 1000000 := fun y hy =>
  ⟨⟨3, [y] ++ t, []⟩, 0, rfl, byT_mk (fun v hv => by rcases List.mem_cons.1 hv with rfl | hv; exact hy; exact hb v hv) trivial, by rw [wT, wL]; simp; omega⟩
 rw [e1, e2]
 unfold lanyardref05_Bits.f
 rw [e1]
 by_cases c1 : 8 * (t.length : Int) - h < 0
 ·rw [if_pos c1]; exact hbad
 ·rw [if_neg c1, if_neg (by omega)]
  cases ((t.length : Int) != (wrap64 (Int.tdiv (wrap64 (8 * (t.length : Int) - h + 7)) 8))) with
  | true => exact hbad
  | false =>
   rw [lanyardref05_Bits.j0, if_neg (by decide), e1, e3, e4]
   have c5 : ∀ y : Int, ([y] : List Int).length + t.length < 140737488355328 := fun y => by simp; omega
   by_cases c3 : h > 0
   ·rw [if_pos c3, if_pos (by omega), if_pos (by omega), if_pos (by omega), if_neg (shl_ne h hh.1 hh.2), Option.bind_some, if_pos (c5 _)]
    split
    ·exact hgood _ (by omega)
    ·exact ⟨⟨0, [], []⟩, 1, rfl, byT_mk (fun v hv => by cases hv) trivial, by decide⟩
   ·rw [if_neg c3, Option.bind_some, if_pos (c5 _)]
    exact hgood _ (by omega)
theorem rbits_zero (t : List Int) (ht : t.length ≤ 100000) (k : Nat) : lanyardref05_Bits.f (k + 1) t (wrap64 (wrap64 (8 * (t.length : Int)) - 0)) = some (3, 0 :: t, [], 0) := by
 have e1 : wrap64 (8 * (t.length : Int)) = 8 * (t.length : Int) := by unfold wrap64; omega
 have e2 : wrap64 (8 * (t.length : Int) - 0) = 8 * (t.length : Int) := by unfold wrap64; omega
 have e3 : wrap64 (8 * (t.length : Int) - 8 * (t.length : Int)) = 0 := by unfold wrap64; omega
 have e5 : wrap64 (Int.tdiv (wrap64 (8 * (t.length : Int) + 7)) 8) = (t.length : Int) := by
  rw [show wrap64 (8 * (t.length : Int) + 7) = 8 * (t.length : Int) + 7 by unfold wrap64; omega, Int.tdiv_eq_ediv_of_nonneg (by omega)]
  unfold wrap64
  omega
 rw [e1, e2]
 unfold lanyardref05_Bits.f
 rw [e1, e5, if_neg (by omega), if_neg (by omega), bne_self_eq_false, lanyardref05_Bits.j0, if_neg (by decide), e1, e3, if_neg (by omega)]
 have e4 : ([(0 : Int) % 256] : List Int).length + t.length < 140737488355328 := by simp; omega
 rw [Option.bind_some, if_pos e4]
 rfl
theorem rof_f (n : T) (hl : n.f1.length ≤ 100000) (hb : ∀ v ∈ n.f1, 0 ≤ v ∧ v < 256) :
 ∃ (k : Nat) (s : List Int) (m e : Int), lanyardref05_Of.f k n.f0 n.f1 n.f2 = some (s, m, e) ∧ s.length ≤ n.f1.length ∧ (∀ v ∈ s, 0 ≤ v ∧ v < 256) ∧ (∀ t, n = bitT t → s = t) := by
 obtain ⟨tag, body, kids⟩ := n
 dsimp only at hl hb ⊢
 cases body with
 | nil => exact ⟨1, [], 0, 2, by rw [lanyardref05_Of.f, if_pos (show ((([] : List Int).length : Int) = 0) by rfl), lanyardref05_Of.j0, if_pos rfl], by simp, by simp, fun t ht => by injection ht with _ ht _; cases ht⟩
 | cons h t =>
  have hh := hb h List.mem_cons_self
  have hbt : ∀ v ∈ t, 0 ≤ v ∧ v < 256 := fun v hv => hb v (List.mem_cons_of_mem _ hv)
  simp only [List.length_cons] at hl
  have hlen : ((h :: t).length : Int) = (t.length : Int) + 1 := by simp
  have hrd : rd (h :: t) 0 = h := rfl
  have hf : ∀ k, lanyardref05_Of.f k tag (h :: t) kids = lanyardref05_Of.j0 k (decide (h > 7)) tag (h :: t) kids := by
   intro k
   rw [lanyardref05_Of.f, hlen, if_neg (by omega), if_pos (by omega), hrd]
  by_cases c7 : h > 7
  ·refine ⟨1, [], 0, 2, by rw [hf, decide_eq_true c7, lanyardref05_Of.j0, if_pos rfl], by simp, by simp, fun u hu => ?_⟩
   unfold bitT at hu
   injection hu with _ hu _
   injection hu with hu _
   omega
  ·obtain ⟨r, r4, hr, hby, hw⟩ := rbits_some t h ⟨hh.1, by omega⟩ (by omega) hbt 0
   obtain ⟨k, hk⟩ := sm_any r hw ⟨tag, h :: t, kids⟩
   dsimp only at hk
   have hr2 : lanyardref05_Bits.f (k + 1) t (wrap64 (wrap64 (8 * (t.length : Int)) - h)) = some (r.f0, r.f1, r.f2, r4) := by
    obtain ⟨r', r4', hr', _, _⟩ := rbits_some t h ⟨hh.1, by omega⟩ (by omega) hbt k
    have := bits_up hr k
    rw [show 0 + 1 + k = k + 1 by omega] at this
    exact this
   have hc : ([] ++ (h :: t).drop 1 : List Int) = t := rfl
   have hj : lanyardref05_Of.j0 (k + 2) false tag (h :: t) kids = if r4 = 0 then (if eqT r ⟨tag, h :: t, kids⟩ = true then some (t, 8 * (t.length : Int) - h, 0) else some ([], 0, 2)) else some ([], 0, 2) := by
    rw [lanyardref05_Of.j0, if_neg (by decide), Option.bind_some, hlen, if_pos (by omega), hc, if_pos (by simp; omega), Option.bind_some, if_pos (by omega), hrd, wrap64_in h (by omega), hr2, Option.bind_some]
    dsimp only
    rw [sm_up hk 1, Option.bind_some]
    have e1 : wrap64 (8 * (t.length : Int)) = 8 * (t.length : Int) := by unfold wrap64; omega
    have e2 : wrap64 (8 * (t.length : Int) - h) = 8 * (t.length : Int) - h := by unfold wrap64; omega
    rw [e1, e2]
   have hf2 : lanyardref05_Of.f (k + 2) tag (h :: t) kids = lanyardref05_Of.j0 (k + 2) false tag (h :: t) kids := by rw [hf, decide_eq_false c7]
   by_cases c4 : r4 = 0
   ·cases hq : eqT r ⟨tag, h :: t, kids⟩ with
    | true =>
     refine ⟨k + 2, t, 8 * (t.length : Int) - h, 0, by rw [hf2, hj, if_pos c4, hq, if_pos rfl], by simp, hbt, fun u hu => ?_⟩
     unfold bitT at hu
     injection hu with _ hu _
     injection hu with _ hu
    | false =>
     refine ⟨k + 2, [], 0, 2, by rw [hf2, hj, if_pos c4, hq, if_neg (by decide)], by simp, by simp, fun u hu => ?_⟩
     unfold bitT at hu
     injection hu with h1 h2 h3
     injection h2 with h2 h4
     subst h1 h2 h3 h4
     rw [rbits_zero t (by omega) 0] at hr
     injection hr with hr
     injection hr with g0 hr
     injection hr with g1 hr
     injection hr with g2 hr
     have : r = ⟨3, 0 :: t, []⟩ := by rw [← T_eta r, ← g0, ← g1, ← g2]
     rw [this, eqT_rfl] at hq
     cases hq
   ·refine ⟨k + 2, [], 0, 2, by rw [hf2, hj, if_neg c4], by simp, by simp, fun u hu => ?_⟩
    unfold bitT at hu
    injection hu with h1 h2 h3
    injection h2 with h2 h4
    subst h2 h4
    rw [rbits_zero t (by omega) 0] at hr
    injection hr with hr
    injection hr with g0 hr
    injection hr with g1 hr
    injection hr with g2 hr
    exact absurd hr.symm c4

end Go.Proofs.Ytmbgjhkemlliaaa.Tlv
end

/- The reference's made, walked. -/
section
set_option linter.unusedVariables false
set_option linter.unusedSimpArgs false
namespace Go.Proofs.Ytmbgjhkemlliaaa.Tlv
open Go.RowKit Go.Proofs.YtmbgjhkemlliaaaW.PrintWords Go.Proofs.YtmbgjhkemlliaaaW.PrintLast Go.Proofs.YtmbgjhkemlliaaaW.PrintMore Go.Proofs.Ytmbgjhkemlliaaa.PT

set_option maxHeartbeats 4000000 in
set_option maxRecDepth 100000 in
theorem rmade_walk (x : Int) (hf : lanyardref05_Oid.f 100 [1, 2, 840, 113549, 1, 1, x] = some (6, oidB x, [], 0)) (w : World) :
 Calls Try.prog 18 #[.int .u32 x] w fun e w' => ∃ v1 v2, e = .returned (.agg #[.int .i64 48, v1, v2]) ∧ NodeR w' w.heap.size w'.heap.size (algT x) v1 v2 ∧ Below w.heap.size w w' := by
 have HF := Lib.hid hf
 clear hf
 go_enter Try.func18, Try.ntmps18
 go_wp2_with (fail)
 have hl2 : ((w.alloc (.cells #[.int .i64 0, .slice none 0 0, .slice none 0 0] 25)).alloc (.cells #[.int .u32 1, .int .u32 2, .int .u32 840, .int .u32 113549, .int .u32 1, .int .u32 1, .int .u32 x] 39)).heap[w.heap.size + 1]? = some (.cells ([1, 2, 840, 113549, 1, 1, x].map (Value.int .u32)).toArray 39 (0, 0)) := by
  have := heap_alloc_new (w.alloc (.cells #[.int .i64 0, .slice none 0 0, .slice none 0 0] 25)) (.cells #[.int .u32 1, .int .u32 2, .int .u32 840, .int .u32 113549, .int .u32 1, .int .u32 1, .int .u32 x] 39)
  simpa using this
 have hb0 : ((w.alloc (.cells #[.int .i64 0, .slice none 0 0, .slice none 0 0] 25)).alloc (.cells #[.int .u32 1, .int .u32 2, .int .u32 840, .int .u32 113549, .int .u32 1, .int .u32 1, .int .u32 x] 39)).heap[w.heap.size]? = some (.cells #[.int .i64 0, .slice none 0 0, .slice none 0 0] 25 (0, 0)) :=
  (Below.heap_alloc _ _ _ (by simp)).trans (heap_alloc_new w _)
 have hB2 : Below w.heap.size w ((w.alloc (.cells #[.int .i64 0, .slice none 0 0, .slice none 0 0] 25)).alloc (.cells #[.int .u32 1, .int .u32 2, .int .u32 840, .int .u32 113549, .int .u32 1, .int .u32 1, .int .u32 x] 39)) := ((Below.refl _ _).alloc (Nat.le_refl _) _).alloc (by simp) _
 generalize (w.alloc (.cells #[.int .i64 0, .slice none 0 0, .slice none 0 0] 25)).alloc (.cells #[.int .u32 1, .int .u32 2, .int .u32 840, .int .u32 113549, .int .u32 1, .int .u32 1, .int .u32 x] 39) = w2 at hl2 hb0 hB2 ⊢
 refine (lanyardref05_Oid.calls 100 (some ⟨w.heap.size + 1, 0, none⟩) 7 [1, 2, 840, 113549, 1, 1, x] 6 (oidB x) [] 0 w2 (C_ints hl2 (by simp)) (by simp) HF.out).mono ?_
 rintro e w3 ⟨v1, v2, rfl, hv1, hv2, hB3⟩
 obtain ⟨A1, c1, rfl⟩ := Kd.R_slice hv1
 obtain ⟨A2, c2, rfl⟩ := Kd.R_slice hv2
 have hb3 := (hB3.block _ (heap_lt hb0)).trans hb0
 have hlt := heap_lt hb3
 have hB := hB2.trans (hB3.mono hB2.size)
 have h0 := NodeR.of (n := ⟨6, oidB x, []⟩) hv1 hv2
 have H0 := Lib.hid h0
 have HLT2 := Lib.hid (And.intro (heap_lt hb0) hB3.size)
 have HB := Lib.hid hB
 have HB3 := Lib.hid hb3
 have a0 := Lib.cell_of_heap hb3 0
 have a1 := Lib.cell_of_heap hb3 1
 have a2 := Lib.cell_of_heap hb3 2
 have f0 := Lib.frozen_of_heap hb3 0
 have f1 := Lib.frozen_of_heap hb3 1
 have f2 := Lib.frozen_of_heap hb3 2
 clear h0 hB hb3 hl2 hb0 hB2 hB3 hv1 hv2
 have holen : (oidB x).length = 9 := rfl
 rw [holen]
 go_wp2
 have z0 : (((w3.setCell ⟨w.heap.size, 0, none⟩ (.int .i64 48)).setCell ⟨w.heap.size, 1, none⟩ (.slice none 0 0)).setCell ⟨w.heap.size, 2, none⟩ (.slice (some ⟨w3.heap.size + 1, 0, none⟩) 2 2)).heap[w.heap.size]? = some (.cells #[.int .i64 48, .slice none 0 0, .slice (some ⟨w3.heap.size + 1, 0, none⟩) 2 2] 25 (0, 0)) :=
  heap_setCell_same _ _ 2 _ _ _ (heap_setCell_same _ _ 1 _ _ _ (heap_setCell_same _ _ 0 _ _ _ HB3.out))
 have zB : Below w.heap.size w (((w3.setCell ⟨w.heap.size, 0, none⟩ (.int .i64 48)).setCell ⟨w.heap.size, 1, none⟩ (.slice none 0 0)).setCell ⟨w.heap.size, 2, none⟩ (.slice (some ⟨w3.heap.size + 1, 0, none⟩) 2 2)) :=
  Below.setCell (Below.setCell (Below.setCell HB.out (p := ⟨w.heap.size, 0, none⟩) (Nat.le_refl _) _) (p := ⟨w.heap.size, 1, none⟩) (Nat.le_refl _) _) (p := ⟨w.heap.size, 2, none⟩) (Nat.le_refl _) _
 have zs : (((w3.setCell ⟨w.heap.size, 0, none⟩ (.int .i64 48)).setCell ⟨w.heap.size, 1, none⟩ (.slice none 0 0)).setCell ⟨w.heap.size, 2, none⟩ (.slice (some ⟨w3.heap.size + 1, 0, none⟩) 2 2)).heap.size = w3.heap.size := by simp
 have zk : ∀ k, k ≠ w.heap.size → (((w3.setCell ⟨w.heap.size, 0, none⟩ (.int .i64 48)).setCell ⟨w.heap.size, 1, none⟩ (.slice none 0 0)).setCell ⟨w.heap.size, 2, none⟩ (.slice (some ⟨w3.heap.size + 1, 0, none⟩) 2 2)).heap[k]? = w3.heap[k]? :=
  fun k hk => (heap_setCell_other _ _ _ _ hk).trans ((heap_setCell_other _ _ _ _ hk).trans (heap_setCell_other _ _ _ _ hk))
 generalize ((w3.setCell ⟨w.heap.size, 0, none⟩ (.int .i64 48)).setCell ⟨w.heap.size, 1, none⟩ (.slice none 0 0)).setCell ⟨w.heap.size, 2, none⟩ (.slice (some ⟨w3.heap.size + 1, 0, none⟩) 2 2) = w4 at z0 zB zs zk ⊢
 have hn := H0.out
 obtain ⟨hq1, hq2⟩ := HLT2.out
 rw [← zs]
 rw [← zs] at z0
 have hr0 : ((w4.alloc (.cells #[.int .i64 6, .slice A1 9 c1, .slice A2 0 c2] 25)).alloc (.cells #[.int .i64 6, .slice A1 9 c1, .slice A2 0 c2, .int .i64 5, .slice none 0 0, .slice none 0 0] 25)).heap[w.heap.size]? = some (.cells #[.int .i64 48, .slice none 0 0, .slice (some ⟨w4.heap.size + 1, 0, none⟩) 2 2] 25 (0, 0)) :=
  (Below.heap_alloc _ _ _ (by simp; omega)).trans ((Below.heap_alloc _ _ _ (by omega)).trans z0)
 have hk0 : ((w4.alloc (.cells #[.int .i64 6, .slice A1 9 c1, .slice A2 0 c2] 25)).alloc (.cells #[.int .i64 6, .slice A1 9 c1, .slice A2 0 c2, .int .i64 5, .slice none 0 0, .slice none 0 0] 25)).heap[w4.heap.size + 1]? = some (.cells [.int .i64 6, .slice A1 9 c1, .slice A2 0 c2, .int .i64 5, .slice none 0 0, .slice none 0 0].toArray 25 (0, 0)) := by
  have := heap_alloc_new (w4.alloc (.cells #[.int .i64 6, .slice A1 9 c1, .slice A2 0 c2] 25)) (.cells #[.int .i64 6, .slice A1 9 c1, .slice A2 0 c2, .int .i64 5, .slice none 0 0, .slice none 0 0] 25)
  simpa using this
 have hBf : Below w4.heap.size w4 ((w4.alloc (.cells #[.int .i64 6, .slice A1 9 c1, .slice A2 0 c2] 25)).alloc (.cells #[.int .i64 6, .slice A1 9 c1, .slice A2 0 c2, .int .i64 5, .slice none 0 0, .slice none 0 0] 25)) := ((Below.refl _ _).alloc (Nat.le_refl _) _).alloc (by simp) _
 have hsf : ((w4.alloc (.cells #[.int .i64 6, .slice A1 9 c1, .slice A2 0 c2] 25)).alloc (.cells #[.int .i64 6, .slice A1 9 c1, .slice A2 0 c2, .int .i64 5, .slice none 0 0, .slice none 0 0] 25)).heap.size = w4.heap.size + 2 := by simp
 generalize (w4.alloc (.cells #[.int .i64 6, .slice A1 9 c1, .slice A2 0 c2] 25)).alloc (.cells #[.int .i64 6, .slice A1 9 c1, .slice A2 0 c2, .int .i64 5, .slice none 0 0, .slice none 0 0] 25) = w5 at hr0 hk0 hBf hsf ⊢
 have b0 := Lib.cell_of_heap hr0 0
 have b1 := Lib.cell_of_heap hr0 1
 have b2 := Lib.cell_of_heap hr0 2
 have hn5 : NodeR w5 w.heap.size w4.heap.size ⟨6, oidB x, []⟩ (.slice A1 9 c1) (.slice A2 0 c2) := by
  refine (NodeR.widen (NodeR.move (w1 := w5) hn (fun k hk1 hk2 => ?_)) (by omega) (by omega))
  rw [hBf.block k (by omega)]
  exact zk k (by omega)
 refine bodyPost_ret (v := .agg #[.int .i64 48, .slice none 0 0, .slice (some ⟨w4.heap.size + 1, 0, none⟩) 2 2]) (by simp [results, Try.results18, go_sem, b0, b1, b2]) rfl ?_
 refine ⟨_, _, rfl, ⟨Kd.R_nil _ _ _ _ _, ?_⟩, zB.trans (hBf.mono (by omega))⟩
 exact R_row (l := [⟨6, oidB x, []⟩, ⟨5, [], []⟩]) hk0 (by omega) (by omega) (Reps_two hn5 (NodeR.nilnil w5 w.heap.size w4.heap.size 5) (by omega) (by omega)) (by simp)

end Go.Proofs.Ytmbgjhkemlliaaa.Tlv
end

/- The reference's Seal, walked. -/
section
set_option linter.unusedVariables false
set_option linter.unusedSimpArgs false
namespace Go.Proofs.Ytmbgjhkemlliaaa.Tlv
open Go.RowKit Go.Proofs.YtmbgjhkemlliaaaW.PrintWords Go.Proofs.YtmbgjhkemlliaaaW.PrintLast Go.Proofs.YtmbgjhkemlliaaaW.PrintMore Go.Proofs.Ytmbgjhkemlliaaa.PT

theorem WriteR.lower {w w1 : World} {n : T} {e : Ending} {w' : World} (h : WriteR w1 n e w') (hB : Below w.heap.size w w1) : WriteR w n e w' := by
 obtain ⟨A, l, c, x, e1, h1, h2, h3⟩ := h
 exact ⟨A, l, c, x, e1, h1, Kd.R_lower h2 hB.size, hB.trans (h3.mono hB.size)⟩
/-- Three elements that lie in one row, written. -/
theorem three_write (a b c : T) (hw : wT ⟨48, [], [a, b, c]⟩ ≤ 1000000) (A1 : Option Addr) (c1 : Nat) (A2 : Option Addr) (c2 : Nat) (B1 : Option Addr) (d1 : Nat) (B2 : Option Addr) (d2 : Nat) (C1 : Option Addr) (e1 : Nat) (C2 : Option Addr) (e2 : Nat) (w : World)
 (ha : NodeAt w a A1 c1 A2 c2) (hb : NodeAt w b B1 d1 B2 d2) (hc : NodeAt w c C1 e1 C2 e2) (ob : Obj) (hob : ob = .cells #[.int .i64 a.f0, .slice A1 a.f1.length c1, .slice A2 a.f2.length c2, .int .i64 b.f0, .slice B1 b.f1.length d1, .slice B2 b.f2.length d2, .int .i64 c.f0, .slice C1 c.f1.length e1, .slice C2 c.f2.length e2] 25 (0, 0)) :
 Calls Try.prog 17 #[.agg #[.int .i64 48, .slice none 0 0, .slice (some ⟨w.heap.size, 0, none⟩) 3 3]] (w.alloc ob) (WriteR (w.alloc ob) ⟨48, [], [a, b, c]⟩) := by
 have h6 : (w.alloc ob).heap[w.heap.size]? = some ob := heap_alloc_new w _
 have hBB : Below w.heap.size w (w.alloc ob) := (Below.refl _ _).alloc (Nat.le_refl _) _
 have hk : k25.C (w.alloc ob) (some ⟨w.heap.size, 0, none⟩) 3 [a, b, c] :=
  C_row (cs := [.int .i64 a.f0, .slice A1 a.f1.length c1, .slice A2 a.f2.length c2, .int .i64 b.f0, .slice B1 b.f1.length d1, .slice B2 b.f2.length d2, .int .i64 c.f0, .slice C1 c.f1.length e1, .slice C2 c.f2.length e2]) (by rw [h6, hob]) (KReps_three (NodeAt.K (n := a) (ha.below hBB)) (NodeAt.K (n := b) (hb.below hBB)) (NodeAt.K (n := c) (hc.below hBB))) (by simp)
 exact rwrite_R ⟨48, [], [a, b, c]⟩ hw none 0 (some ⟨w.heap.size, 0, none⟩) 3 (w.alloc ob) ⟨C_nil _ _ _, Nat.le_refl _, hk, Nat.le_refl _⟩
theorem seal_w (n : T) (sig : List Int) (hw : wT n ≤ 500000) (hsl : sig.length ≤ 100000) : wT (sealT n sig) ≤ 1000000 := by
 unfold sealT
 have h3 : wT (algT 11) = 12 := by decide
 have h4 : wT (bitT sig) = 1 + ((0 :: sig).length : Int) + 0 := by unfold bitT; rw [wT, wL]
 have h6 : (((0 : Int) :: sig).length : Int) = sig.length + 1 := by simp
 rw [wT, wL, wL, wL, wL, h3, h4]
 have : (([] : List Int).length : Int) = 0 := rfl
 omega
/-- What holds ahead of the last statement. -/
theorem rseal_tail (n : T) (sig : List Int) (hw : wT n ≤ 500000) (hsl : sig.length ≤ 100000) (A1 : Option Addr) (c1 : Nat) (A2 : Option Addr) (c2 : Nat) (W1 : Option Addr) (e1 : Nat) (W2 : Option Addr) (e2 : Nat) (w w2 : World) (p q : Nat) (hn : NodeAt w2 n A1 c1 A2 c2) (hx : NodeAt w2 (bitT sig) W1 e1 W2 e2) (hB : Below w.heap.size w w2)
 (hp : w2.heap[p]? = some (.cells #[.int .i64 n.f0, .slice A1 n.f1.length c1, .slice A2 n.f2.length c2] 25 (0, 0))) (hq : w2.heap[q]? = some (.cells #[.int .i64 3, .slice W1 (sig.length + 1) e1, .slice W2 0 e2] 25 (0, 0))) (w3 : World) (M1 : Option Addr) (m1 : Nat) (M2 : Option Addr) (m2 : Nat) (hm : NodeR w3 w2.heap.size w3.heap.size (algT 11) (.slice M1 0 m1) (.slice M2 2 m2)) (hB3 : Below w2.heap.size w2 w3) :
 (w3.cell? ⟨p, 0, none⟩ = some (.int .i64 n.f0) ∧ w3.cell? ⟨p, 1, none⟩ = some (.slice A1 n.f1.length c1) ∧ w3.cell? ⟨p, 2, none⟩ = some (.slice A2 n.f2.length c2) ∧ w3.cell? ⟨q, 0, none⟩ = some (.int .i64 3) ∧ w3.cell? ⟨q, 1, none⟩ = some (.slice W1 (sig.length + 1) e1) ∧ w3.cell? ⟨q, 2, none⟩ = some (.slice W2 0 e2)) ∧
 (∀ ob : Obj, ob = .cells #[.int .i64 n.f0, .slice A1 n.f1.length c1, .slice A2 n.f2.length c2, .int .i64 48, .slice M1 0 m1, .slice M2 2 m2, .int .i64 3, .slice W1 (sig.length + 1) e1, .slice W2 0 e2] 25 (0, 0) →
  ((w3.alloc ob).cell? ⟨p, 0, none⟩ = some (.int .i64 n.f0) ∧ (w3.alloc ob).cell? ⟨p, 1, none⟩ = some (.slice A1 n.f1.length c1) ∧ (w3.alloc ob).cell? ⟨p, 2, none⟩ = some (.slice A2 n.f2.length c2) ∧ (w3.alloc ob).cell? ⟨q, 0, none⟩ = some (.int .i64 3) ∧ (w3.alloc ob).cell? ⟨q, 1, none⟩ = some (.slice W1 (sig.length + 1) e1) ∧ (w3.alloc ob).cell? ⟨q, 2, none⟩ = some (.slice W2 0 e2)) ∧
  Calls Try.prog 17 #[.agg #[.int .i64 48, .slice none 0 0, .slice (some ⟨w3.heap.size, 0, none⟩) 3 3]] (w3.alloc ob) fun e w4 => ∃ va vb, e = .returned (.tuple #[va, vb]) ∧ WriteR w (sealT n sig) (.returned (.tuple #[va, vb])) w4 ∧
   (w4.cell? ⟨p, 0, none⟩ = some (.int .i64 n.f0) ∧ w4.cell? ⟨p, 1, none⟩ = some (.slice A1 n.f1.length c1) ∧ w4.cell? ⟨p, 2, none⟩ = some (.slice A2 n.f2.length c2) ∧ w4.cell? ⟨q, 0, none⟩ = some (.int .i64 3) ∧ w4.cell? ⟨q, 1, none⟩ = some (.slice W1 (sig.length + 1) e1) ∧ w4.cell? ⟨q, 2, none⟩ = some (.slice W2 0 e2))) := by
 have p3 := (hB3.block _ (heap_lt hp)).trans hp
 have q3 := (hB3.block _ (heap_lt hq)).trans hq
 refine ⟨⟨Lib.cell_of_heap p3 0, Lib.cell_of_heap p3 1, Lib.cell_of_heap p3 2, Lib.cell_of_heap q3 0, Lib.cell_of_heap q3 1, Lib.cell_of_heap q3 2⟩, fun ob hob => ?_⟩
 have p4 := (Below.heap_alloc w3 ob _ (heap_lt p3)).trans p3
 have q4 := (Below.heap_alloc w3 ob _ (heap_lt q3)).trans q3
 refine ⟨⟨Lib.cell_of_heap p4 0, Lib.cell_of_heap p4 1, Lib.cell_of_heap p4 2, Lib.cell_of_heap q4 0, Lib.cell_of_heap q4 1, Lib.cell_of_heap q4 2⟩, ?_⟩
 have hBw3 : Below w.heap.size w w3 := hB.trans (hB3.mono hB.size)
 have hBa : Below w.heap.size w (w3.alloc ob) := hBw3.alloc hBw3.size ob
 refine (three_write n (algT 11) (bitT sig) (seal_w n sig hw hsl) A1 c1 A2 c2 M1 m1 M2 m2 W1 e1 W2 e2 w3 (hn.below hB3) (hm.at (n := algT 11)) (hx.below hB3) ob hob).mono ?_
 rintro e w4 h
 have h2 := h.lower hBa
 obtain ⟨A, l, c, x, rfl, _, _, hB4⟩ := h
 have p5 := (hB4.block _ (heap_lt p4)).trans p4
 have q5 := (hB4.block _ (heap_lt q4)).trans q4
 exact ⟨_, _, rfl, h2, Lib.cell_of_heap p5 0, Lib.cell_of_heap p5 1, Lib.cell_of_heap p5 2, Lib.cell_of_heap q5 0, Lib.cell_of_heap q5 1, Lib.cell_of_heap q5 2⟩

set_option maxHeartbeats 4000000 in
set_option maxRecDepth 100000 in
theorem rseal_walk (n : T) (sig : List Int) (hw : wT n ≤ 500000) (hsl : sig.length ≤ 100000) (A1 : Option Addr) (c1 : Nat) (A2 : Option Addr) (c2 : Nat) (As : Option Addr) (cs : Nat) (w : World) (hn : NodeAt w n A1 c1 A2 c2) (hsr : ReadsInt w .u8 As sig.length sig) (hsc : sig.length ≤ cs) :
 Calls Try.prog 8 #[.agg #[.int .i64 n.f0, .slice A1 n.f1.length c1, .slice A2 n.f2.length c2], .slice As sig.length cs] w (WriteR w (sealT n sig)) := by
 have hbox : (w.alloc (.cells #[.int .i64 n.f0, .slice A1 n.f1.length c1, .slice A2 n.f2.length c2] 25)).heap[w.heap.size]? = some (.cells #[.int .i64 n.f0, .slice A1 n.f1.length c1, .slice A2 n.f2.length c2] 25 (0, 0)) := heap_alloc_new w _
 have hB1 : Below w.heap.size w (w.alloc (.cells #[.int .i64 n.f0, .slice A1 n.f1.length c1, .slice A2 n.f2.length c2] 25)) := (Below.refl _ _).alloc (Nat.le_refl _) _
 have hz := rbits_zero sig hsl 0
 rw [show (wrap64 (wrap64 (8 * (sig.length : Int)) - 0)) = wrap64 (8 * (sig.length : Int)) by unfold wrap64; omega] at hz
 have hwr : wrap64 (8 * (sig.length : Int)) = 8 * (sig.length : Int) := by unfold wrap64; omega
 rw [hwr] at hz
 have HBITS := Lib.hid (fun w1 (hB : Below w.heap.size w w1) => lanyardref05_Bits.calls 1 As cs sig (8 * (sig.length : Int)) 3 (0 :: sig) [] 0 w1 (Kd.C_below (C_of_reads hsr rfl) hB) hsc hz)
 have HN := Lib.hid (fun w1 (hB : Below w.heap.size w w1) => hn.below hB)
 have HB1 := Lib.hid hB1
 have HBOX := Lib.hid hbox
 have HT := Lib.hid (rseal_tail n sig hw hsl A1 c1 A2 c2)
 have HSL := Lib.hid hwr
 have hsl2 : (sig.length : Int) ≤ 100000 := by omega
 generalize hPP : WriteR w (sealT n sig) = PP
 have HPP := Lib.hid hPP
 clear hbox hB1 hn hsr hsc hz hw hsl hPP hwr
 go_enter Try.func8, Try.ntmps8
 go_wp2_with (fail)
 refine (HBITS.out _ HB1.out).mono ?_
 rintro e w2 ⟨v1, v2, rfl, hv1, hv2, hB2⟩
 obtain ⟨W1, e1, rfl⟩ := Kd.R_slice hv1
 obtain ⟨W2, e2, rfl⟩ := Kd.R_slice hv2
 have hBw := HB1.out.trans (hB2.mono HB1.out.size)
 have hx := (NodeR.of (n := bitT sig) hv1 hv2).at
 have hb2 := (hB2.block _ (heap_lt HBOX.out)).trans HBOX.out
 have HX := Lib.hid hx
 have HB2 := Lib.hid hBw
 have HP := Lib.hid hb2
 clear hv1 hv2 hB2 hBw hx hb2 HBITS HBOX HB1
 have elen : (0 :: sig).length = sig.length + 1 := rfl
 have elen0 : ([] : List S25).length = 0 := rfl
 rw [elen, elen0]
 clear elen elen0
 go_wp2
 have hz : (w2.alloc (.cells #[.int .i64 3, .slice W1 (sig.length + 1) e1, .slice W2 0 e2] 25)).drew.heap[w2.heap.size]? = some (.cells #[.int .i64 3, .slice W1 (sig.length + 1) e1, .slice W2 0 e2] 25 (0, 0)) := heap_alloc_new w2 _
 have hp := (Below.heap_alloc w2 (.cells #[.int .i64 3, .slice W1 (sig.length + 1) e1, .slice W2 0 e2] 25) _ (heap_lt HP.out)).trans HP.out
 have hbz : Below w2.heap.size w2 (w2.alloc (.cells #[.int .i64 3, .slice W1 (sig.length + 1) e1, .slice W2 0 e2] 25)).drew := ((Below.refl _ _).alloc (Nat.le_refl _) _).drew
 have HT3 := Lib.hid (HT.out W1 e1 W2 e2 w (w2.alloc (.cells #[.int .i64 3, .slice W1 (sig.length + 1) e1, .slice W2 0 e2] 25)).drew w.heap.size w2.heap.size ((HN.out _ HB2.out).below hbz) (HX.out.below hbz) (HB2.out.trans (hbz.mono HB2.out.size)) hp hz)
 have HH : Hid ((w2.alloc (.cells #[.int .i64 3, .slice W1 (sig.length + 1) e1, .slice W2 0 e2] 25)).drew.cell? ⟨w.heap.size, 0, none⟩ = some (.int .i64 n.f0) ∧ (w2.alloc (.cells #[.int .i64 3, .slice W1 (sig.length + 1) e1, .slice W2 0 e2] 25)).drew.cell? ⟨w.heap.size, 1, none⟩ = some (.slice A1 n.f1.length c1) ∧ (w2.alloc (.cells #[.int .i64 3, .slice W1 (sig.length + 1) e1, .slice W2 0 e2] 25)).drew.cell? ⟨w.heap.size, 2, none⟩ = some (.slice A2 n.f2.length c2) ∧ (w2.alloc (.cells #[.int .i64 3, .slice W1 (sig.length + 1) e1, .slice W2 0 e2] 25)).drew.cell? ⟨w2.heap.size, 0, none⟩ = some (.int .i64 3) ∧ (w2.alloc (.cells #[.int .i64 3, .slice W1 (sig.length + 1) e1, .slice W2 0 e2] 25)).drew.cell? ⟨w2.heap.size, 1, none⟩ = some (.slice W1 (sig.length + 1) e1) ∧ (w2.alloc (.cells #[.int .i64 3, .slice W1 (sig.length + 1) e1, .slice W2 0 e2] 25)).drew.cell? ⟨w2.heap.size, 2, none⟩ = some (.slice W2 0 e2)) :=
  Lib.hid ⟨Lib.cell_of_heap hp 0, Lib.cell_of_heap hp 1, Lib.cell_of_heap hp 2, Lib.cell_of_heap hz 0, Lib.cell_of_heap hz 1, Lib.cell_of_heap hz 2⟩
 clear hz hp hbz HT HX HB2 HP HN
 refine start_ (n := 10) (S := fun w' => w'.cell? ⟨w.heap.size, 0, none⟩ = some (.int .i64 n.f0) ∧ w'.cell? ⟨w.heap.size, 1, none⟩ = some (.slice A1 n.f1.length c1) ∧ w'.cell? ⟨w.heap.size, 2, none⟩ = some (.slice A2 n.f2.length c2) ∧ w'.cell? ⟨w2.heap.size, 0, none⟩ = some (.int .i64 3) ∧ w'.cell? ⟨w2.heap.size, 1, none⟩ = some (.slice W1 (sig.length + 1) e1) ∧ w'.cell? ⟨w2.heap.size, 2, none⟩ = some (.slice W2 0 e2)) (ds := []) #[false, false, false, false, false, false, false, false, false, false] (by kernel_rfl) rfl rfl HH.out (fun hHeld => ?_)
 refine take_ (i := 0) (N := some 16) (v := ?_) (a' := ?_) #[true, false, false, false, false, false, false, false, false, false] rfl rfl (by kernel_rfl) (fun _ _ _ h => h) (Or.inl ⟨by rfl, ?_⟩) hHeld ?_ ?_
 rotate_left
 ·rintro w' ⟨s0, s1, s2, s3, s4, s5⟩
  go_simp
  with_reducible rfl
 rotate_left
 ·simp only [Act.put, List.setIfInBounds_toArray, List.set_cons_zero, List.set_cons_succ, i64_w, i32_w]
  rfl
 refine take_ (i := 2) (N := some 18) (v := ?_) (a' := ?_) #[true, false, true, false, false, false, false, false, false, false] rfl rfl (by kernel_rfl) (fun _ _ _ h => h) (Or.inl ⟨by rfl, ?_⟩) hHeld ?_ ?_
 rotate_left
 ·rintro w' ⟨s0, s1, s2, s3, s4, s5⟩
  go_simp
  with_reducible rfl
 rotate_left
 ·simp only [Act.put, List.setIfInBounds_toArray, List.set_cons_zero, List.set_cons_succ, i64_w, i32_w]
  rfl
 refine one_ (i := 1) (N := some 17) #[true, true, true, false, false, false, false, false, false, false] rfl rfl (by kernel_rfl) (by decide) (fun K hK => ?_)
 refine goes_ Try.func18 (by kernel_rfl) rfl #[.int .u32 11] (by rfl) rfl rfl (by (try simp only [List.map_toArray, List.map_cons, List.map_nil]); first | done | rfl) ?_
 refine (rmade_walk 11 roid_f11 _).mono ?_
 rintro e w3 ⟨v1, v2, rfl, ho3, hb3⟩
 refine ⟨_, rfl, ?_⟩
 obtain ⟨M1, m1, M2, m2, rfl, rfl, hm⟩ := ho3.form
 have HF := Lib.hid (HT3.out w3 M1 m1 M2 m2 ho3 hb3)
 clear ho3 hb3 hm
 refine hK.out _ _ HF.out.1 (fun hHeld => ?_)
 clear hK K
 refine norm_ (a' := ?_) ?_ ?_
 rotate_left
 ·show Act.put _ (some 17) _ = _
  simp only [Act.put, List.setIfInBounds_toArray, List.set_cons_zero, List.set_cons_succ, i64_w, i32_w]
  rfl
 refine one_ (i := 3) (N := some 19) #[true, true, true, true, false, false, false, false, false, false] rfl rfl (by kernel_rfl) (by decide) (fun K hK => ?_)
 refine event_step (by rfl) (v := .slice (some ⟨w3.heap.size, 0, none⟩) 3 3) (w1 := w3.alloc (.cells #[.int .i64 n.f0, .slice A1 n.f1.length c1, .slice A2 n.f2.length c2, .int .i64 48, .slice M1 0 m1, .slice M2 2 m2, .int .i64 3, .slice W1 (sig.length + 1) e1, .slice W2 0 e2] 25)) (by go_simp; try rfl) ?_
 have HG := Lib.hid (HF.out.2 _ rfl)
 refine hK.out _ _ HG.out.1 (fun hHeld => ?_)
 clear hK K
 refine norm_ (a' := ?_) ?_ ?_
 rotate_left
 ·show Act.put _ (some 19) _ = _
  simp only [Act.put, List.setIfInBounds_toArray, List.set_cons_zero, List.set_cons_succ, i64_w, i32_w]
  rfl
 refine pure_ (i := 4) (N := some 20) (v := ?_) (a' := ?_) #[true, true, true, true, true, false, false, false, false, false] rfl rfl (by kernel_rfl) (fun _ _ _ h => h) (Or.inl ⟨by rfl, ?_⟩) ?_ ?_
 rotate_left
 ·intro w'
  go_simp
  with_reducible rfl
 rotate_left
 ·simp only [Act.put, List.setIfInBounds_toArray, List.set_cons_zero, List.set_cons_succ, i64_w, i32_w]
  rfl
 refine one_ (i := 5) (N := some 21) #[true, true, true, true, true, true, false, false, false, false] rfl rfl (by kernel_rfl) (by decide) (fun K hK => ?_)
 refine goes_ Try.func17 (by kernel_rfl) rfl #[.agg #[.int .i64 48, .slice none 0 0, .slice (some ⟨w3.heap.size, 0, none⟩) 3 3]] (by rfl) rfl rfl (by (try simp only [List.map_toArray, List.map_cons, List.map_nil]); first | done | rfl) ?_
 refine (HG.out.2).mono ?_
 rintro e w5 ⟨va, vb, rfl, hpo, hs5⟩
 refine ⟨_, rfl, ?_⟩
 refine hK.out _ _ hs5 (fun hHeld => ?_)
 clear hK K
 refine norm_ (a' := ?_) ?_ ?_
 rotate_left
 ·show Act.put _ (some 21) _ = _
  simp only [Act.put, List.setIfInBounds_toArray, List.set_cons_zero, List.set_cons_succ, i64_w, i32_w]
  rfl
 refine pure_ (i := 6) (N := some 22) (v := ?_) (a' := ?_) #[true, true, true, true, true, true, true, false, false, false] rfl rfl (by kernel_rfl) (fun _ _ _ h => h) (Or.inl ⟨by rfl, ?_⟩) ?_ ?_
 rotate_left
 ·intro w'
  go_simp
  with_reducible rfl
 rotate_left
 ·simp only [Act.put, List.setIfInBounds_toArray, List.set_cons_zero, List.set_cons_succ, i64_w, i32_w]
  rfl
 refine pure_ (i := 7) (N := some 23) (v := ?_) (a' := ?_) #[true, true, true, true, true, true, true, true, false, false] rfl rfl (by kernel_rfl) (fun _ _ _ h => h) (Or.inl ⟨by rfl, ?_⟩) ?_ ?_
 rotate_left
 ·intro w'
  go_simp
  with_reducible rfl
 rotate_left
 ·simp only [Act.put, List.setIfInBounds_toArray, List.set_cons_zero, List.set_cons_succ, i64_w, i32_w]
  rfl
 refine pure_ (i := 8) (N := some 4) (v := ?_) (a' := ?_) #[true, true, true, true, true, true, true, true, true, false] rfl rfl (by kernel_rfl) (fun _ _ _ h => h) (Or.inl ⟨by rfl, ?_⟩) ?_ ?_
 rotate_left
 ·intro w'
  go_simp
  with_reducible rfl
 rotate_left
 ·simp only [Act.put, List.setIfInBounds_toArray, List.set_cons_zero, List.set_cons_succ, i64_w, i32_w]
  rfl
 refine pure_ (i := 9) (N := some 5) (v := ?_) (a' := ?_) #[true, true, true, true, true, true, true, true, true, true] rfl rfl (by kernel_rfl) (fun _ _ _ h => h) (Or.inl ⟨by rfl, ?_⟩) ?_ ?_
 rotate_left
 ·intro w'
  go_simp
  with_reducible rfl
 rotate_left
 ·simp only [Act.put, List.setIfInBounds_toArray, List.set_cons_zero, List.set_cons_succ, i64_w, i32_w]
  rfl
 refine done_ (by kernel_rfl) ?_
 go_wp2
 have hPP := HPP.out
 subst hPP
 exact hpo

end Go.Proofs.Ytmbgjhkemlliaaa.Tlv
end

/- What is written is read as it was: elemP on an element's bytes. -/
section
set_option linter.unusedVariables false
set_option linter.unusedSimpArgs false
namespace Go.Proofs.Ytmbgjhkemlliaaa.Tlv
open Go.RowKit Go.Proofs.YtmbgjhkemlliaaaW.PrintWords Go.Proofs.YtmbgjhkemlliaaaW.PrintLast Go.Proofs.YtmbgjhkemlliaaaW.PrintMore Go.Proofs.Ytmbgjhkemlliaaa.PT

theorem head_cons (tag n : Int) (ht : 0 ≤ tag ∧ tag < 256) (hn : 0 ≤ n ∧ n < 65536) (short : Int) (r : List Int) : ∃ l, head tag n ++ r = tag :: l ∧ lenP short l = .ok (n, r) := by
 have e : tag % 256 = tag := by omega
 unfold head
 by_cases h1 : n < 128
 ·refine ⟨n % 256 :: r, by rw [if_pos h1, e]; rfl, ?_⟩
  have : n % 256 = n := by omega
  rw [this]
  unfold lenP
  dsimp only
  rw [if_neg (by omega), if_neg (by omega), if_pos h1]
 ·by_cases h2 : n < 256
  ·refine ⟨129 :: n % 256 :: r, by rw [if_neg h1, if_pos h2, e]; rfl, ?_⟩
   have : n % 256 = n := by omega
   rw [this]
   unfold lenP
   dsimp only
   rw [if_pos rfl, if_pos (by omega)]
  ·refine ⟨130 :: n / 256 % 256 :: n % 256 :: r, by rw [if_neg h1, if_neg h2, e]; rfl, ?_⟩
   unfold lenP
   dsimp only
   rw [if_neg (by decide), if_pos rfl, if_pos (by omega)]
   congr 2
   omega
mutual
theorem elemP_enc : ∀ (n : Nat) (t : T) (deep short : Int) (r : List Int), rightT t = true → sizeT t ≤ 60000 → 0 ≤ deep → deep + deepT t ≤ 32 → (encT t).length + 1 ≤ n → elemP n deep short (encT t ++ r) = .ok (t, r)
 | 0, t, _, _, _, _, _, _, _, hn => by omega
 | n + 1, ⟨tag, body, kids⟩, deep, short, r, hr, hs, h0, hd, hn => by
  have hsz := size_enc ⟨tag, body, kids⟩
  rw [rightT, Bool.and_eq_true, Bool.and_eq_true] at hr
  obtain ⟨⟨h1, h2⟩, h3⟩ := hr
  have ht := isTag_range h1
  have hm := manyL_le kids
  by_cases hH : holdsB tag = true
  ·rw [sizeT, if_pos hH] at hs
   rw [deepT, if_pos hH] at hd
   rw [encT, if_pos hH] at hn ⊢
   have hh := headLen_pos (sizeL kids)
   have hl := head_length tag (sizeL kids)
   have hsl := size_encL kids
   rw [if_pos hH] at h2
   have hb0 : body = [] := of_decide_eq_true h2
   subst hb0
   rw [List.length_append] at hn
   obtain ⟨l, e1, e2⟩ := head_cons tag (sizeL kids) ht (by omega) short (encL kids ++ r)
   rw [List.append_assoc, e1, elemP, if_pos h1, e2]
   dsimp only
   rw [if_neg (by rw [List.length_append]; omega), if_neg (by omega), if_pos hH]
   have et : (sizeL kids).toNat = (encL kids).length := by omega
   rw [et, List.take_left, List.drop_left]
   rw [kidsP_enc n kids (deep + 1) h3 (by omega) (by omega) (by omega) (by omega)]
  ·rw [sizeT, if_neg hH] at hs
   rw [deepT, if_neg hH] at hd
   rw [encT, if_neg hH] at hn ⊢
   have hh := headLen_pos (body.length : Int)
   rw [if_neg hH] at h2
   have hk0 : kids = [] := of_decide_eq_true h2
   subst hk0
   rw [List.length_append] at hn
   obtain ⟨l, e1, e2⟩ := head_cons tag (body.length : Int) ht (by omega) short (body ++ r)
   rw [List.append_assoc, e1, elemP, if_pos h1, e2]
   dsimp only
   rw [if_neg (by rw [List.length_append]; omega), if_neg (by omega), if_neg hH, Int.toNat_natCast, List.take_left, List.drop_left]
theorem kidsP_enc : ∀ (n : Nat) (l : List T) (deep : Int), rightL l = true → sizeL l ≤ 60000 → 0 ≤ deep → deep + deepL l ≤ 32 → (encL l).length + 2 ≤ n → kidsP n deep (encL l) = .ok l
 | 0, _, _, _, _, _, _, hn => by omega
 | n + 1, [], _, _, _, _, _, _ => by rw [encL, kidsP]
 | n + 1, t :: l, deep, hr, hs, h0, hd, hn => by
  rw [rightL, Bool.and_eq_true] at hr
  rw [sizeL] at hs
  rw [deepL] at hd
  have h1 := many_le t
  have h2 := manyL_le l
  rw [encL, List.length_append] at hn
  have h3 := encT_len t
  have he := elemP_enc n t deep 2 (encL l) hr.1 (by omega) h0 (by omega) (by omega)
  have hk := kidsP_enc n l deep hr.2 (by omega) h0 (by omega) (by omega)
  rw [encL]
  cases hx : encT t ++ encL l with
  | nil =>
   have := congrArg List.length hx
   rw [List.length_append, List.length_nil] at this
   omega
  | cons x b =>
   rw [hx] at he
   rw [kidsP, he]
   dsimp only
   rw [hk]
end
/-- What Write gives is read as it was. -/
theorem readP_write {t : T} {b : List Int} (h : writeP t = .ok b) : readP b = .ok t := by
 unfold writeP at h
 by_cases h1 : rightT t = false
 ·rw [if_pos h1] at h; cases h
 ·rw [if_neg h1] at h
  by_cases h2 : 32 < deepT t
  ·rw [if_pos h2] at h; cases h
  ·rw [if_neg h2] at h
   by_cases h3 : 20000 < sizeT t
   ·rw [if_pos h3] at h; cases h
   ·rw [if_neg h3] at h
    injection h with h
    subst h
    have hsz := size_enc t
    have := elemP_enc ((encT t).length + 1) t 0 3 [] (by simpa using h1) (by omega) (by decide) (by omega) (Nat.le_refl _)
    rw [List.append_nil] at this
    unfold readP
    rw [if_neg (by omega), this]
    rfl
/-- Two elements with the same bytes are the same. -/
theorem writeP_inj {t u : T} {b : List Int} (h1 : writeP t = .ok b) (h2 : writeP u = .ok b) : t = u := by
 have e1 := readP_write h1
 have e2 := readP_write h2
 rw [e1] at e2
 injection e2

end Go.Proofs.Ytmbgjhkemlliaaa.Tlv
end

/- What is opened, sealed again: in plain Lean; awake. -/
section
set_option linter.unusedVariables false
set_option linter.unusedSimpArgs false
namespace Go.Proofs.Ytmbgjhkemlliaaa.Tlv
open Go.RowKit Go.Proofs.YtmbgjhkemlliaaaW.PrintWords Go.Proofs.YtmbgjhkemlliaaaW.PrintLast Go.Proofs.YtmbgjhkemlliaaaW.PrintMore Go.Proofs.Ytmbgjhkemlliaaa.PT

theorem openP_errs {b : List Int} {e : Int} (h : openP b = .err e) : e ≠ 0 := by
 unfold openP at h
 cases hq : readP b with
 | err x => rw [hq] at h; injection h with h; have := readP_errs hq; omega
 | ok x =>
  rw [hq] at h
  simp only at h
  cases ho : openSig x with
  | none => rw [ho] at h; injection h with h; omega
  | some p => rw [ho] at h; cases h
theorem sigP_some {z : T} {t : List Int} (h : sigP z = some t) : z = bitT t := by
 obtain ⟨tag, body, kids⟩ := z
 unfold sigP at h
 cases body with
 | nil => simp at h
 | cons x r =>
  simp only at h
  split at h
  ·rename_i hc
   injection h with h
   obtain ⟨rfl, h2, h3⟩ := hc
   subst h h2 h3
   rfl
  ·cases h
theorem head_bytes (tag n : Int) : ∀ v ∈ head tag n, 0 ≤ v ∧ v < 256 := by
 intro v hv
 unfold head at hv
 split at hv
 ·simp at hv; omega
 ·split at hv <;> (simp at hv; omega)
theorem alg_bytes : ∀ v ∈ encT (algT 11), 0 ≤ v ∧ v < 256 := by decide
theorem sameP_some {y n : T} (h : sameP y n = true) (hy : ∀ v ∈ encT y, 0 ≤ v ∧ v < 256) (hn : ∀ v ∈ encT n, 0 ≤ v ∧ v < 256) : encT y = encT n := by
 have hok : ∀ (u : T) (l : List Int), writeP u = .ok l → l = encT u := by
  intro u l hu
  unfold writeP at hu
  split at hu
  ·cases hu
  ·split at hu
   ·cases hu
   ·split at hu
    ·cases hu
    ·injection hu with hu; exact hu.symm
 unfold sameP at h
 cases h1 : writeP y with
 | err e => rw [h1] at h; cases h
 | ok l1 =>
  rw [h1] at h
  cases h2 : writeP n with
  | err e => rw [h2] at h; cases h
  | ok l2 =>
   rw [h2] at h
   have e1 := hok _ _ h1
   have e2 := hok _ _ h2
   subst e1 e2
   exact eqB_eq hy hn h
/-- What is opened, sealed again, has just these bytes. -/
theorem open_back {b : List Int} {a : T} {s t : List Int} (hb : ∀ v ∈ b, 0 ≤ v ∧ v < 256) (h : openP b = .ok (a, s, t)) :
 writeP (sealT a t) = .ok b ∧ 0 < s.length ∧ s.length < b.length ∧ rightT a = true ∧ sizeT a ≤ 20000 ∧ t.length ≤ 20000 ∧ s = encT a := by
 unfold openP at h
 cases hq : readP b with
 | err x => rw [hq] at h; cases h
 | ok x =>
  rw [hq] at h
  simp only at h
  cases ho : openSig x with
  | none => rw [ho] at h; cases h
  | some p =>
   obtain ⟨a', t'⟩ := p
   rw [ho] at h
   simp only [Res.ok.injEq, Prod.mk.injEq] at h
   obtain ⟨rfl, rfl, rfl⟩ := h
   obtain ⟨b1, b2, b3, b4, b5⟩ := readP_ok hb hq
   obtain ⟨y, z, q1, q2, q3, q4⟩ := openSig_some ho
   have hz := sigP_some q4
   have ka := kids_parts x b2 a' (by rw [q2]; simp)
   have ky := kids_parts x b2 y (by rw [q2]; simp)
   have kz := kids_parts x b2 z (by rw [q2]; simp)
   have hey : encT y = encT (algT 11) := sameP_some q3 (fun v hv => hb v (by rw [b1]; exact ky.2.2.1 v hv)) alg_bytes
   have hwa : writeP a' = .ok (encT a') := by unfold writeP; rw [if_neg (by rw [ka.1]; simp), if_neg (by omega), if_neg (by omega)]
   have hsd : saidP a' = encT a' := by unfold saidP; rw [hwa]
   obtain ⟨xt, xb, xk⟩ := x
   dsimp only at q1 q2
   subst q1 q2 hz
   have h48 : holdsB 48 = true := by decide
   have hl : ∀ u : T, encL [a', u, bitT t'] = encT a' ++ (encT u ++ (encT (bitT t') ++ [])) := fun u => by rw [encL, encL, encL, encL]
   have hl1 : encL [a', y, bitT t'] = encL [a', algT 11, bitT t'] := by rw [hl, hl, hey]
   have e1 : sizeL [a', y, bitT t'] = sizeL [a', algT 11, bitT t'] := by rw [size_encL, size_encL, hl1]
   have e2 : encT ⟨48, xb, [a', y, bitT t']⟩ = encT (sealT a' t') := by
    unfold sealT
    rw [encT, encT, if_pos h48, if_pos h48, e1, hl1]
   have e3 : sizeT (sealT a' t') = (b.length : Int) := by rw [size_enc, ← e2, ← b1]
   have hd : deepT (sealT a' t') ≤ 32 := by
    have hx : deepT ⟨48, xb, [a', y, bitT t']⟩ = max (deepT a') (max (deepT y) (max (deepT (bitT t')) 0)) + 1 := by rw [deepT, if_pos h48, deepL, deepL, deepL, deepL]
    have hy : deepT (sealT a' t') = max (deepT a') (max (deepT (algT 11)) (max (deepT (bitT t')) 0)) + 1 := by unfold sealT; rw [deepT, if_pos h48, deepL, deepL, deepL, deepL]
    have hg : deepT (algT 11) = 2 := by decide
    have hbt : deepT (bitT t') = 1 := by unfold bitT; rw [deepT, if_neg (by decide)]
    omega
   have hrs : rightT (sealT a' t') = true := by
    unfold sealT
    have hg : rightT (algT 11) = true := by decide
    have hbt : rightT (bitT t') = true := kz.1
    rw [rightT, if_pos h48, rightL, rightL, rightL, rightL, ka.1, hg, hbt]
    decide
   refine ⟨?_, ?_, ?_, ka.1, by omega, ?_, hsd⟩
   ·unfold writeP
    rw [if_neg (by rw [hrs]; simp), if_neg (by omega), if_neg (by omega), ← e2, ← b1]
   ·rw [hsd]; have := encT_len a'; omega
   ·rw [hsd]
    have h1 := size_enc a'
    have h2 := many_le y
    have h3 := many_le (bitT t')
    have h4 := headLen_pos (sizeL [a', y, bitT t'])
    have h5 : sizeT ⟨48, xb, [a', y, bitT t']⟩ = sizeL [a', y, bitT t'] + headLen (sizeL [a', y, bitT t']) := by rw [sizeT, if_pos h48]
    have h6 : sizeL [a', y, bitT t'] = sizeT a' + (sizeT y + (sizeT (bitT t') + 0)) := by rw [sizeL, sizeL, sizeL, sizeL]
    omega
   ·have h1 := kz.2.1
    have h2 : sizeT (bitT t') = ((0 :: t').length : Int) + headLen (((0 :: t').length : Nat) : Int) := by unfold bitT; rw [sizeT, if_neg (by decide)]
    have h5 := headLen_pos (((0 :: t').length : Nat) : Int)
    have h6 : (((0 : Int) :: t').length : Int) = t'.length + 1 := by simp
    omega

def wakeB : List Int := [48, 21, 5, 0, 48, 13, 6, 9, 42, 134, 72, 134, 247, 13, 1, 1, 11, 5, 0, 3, 2, 0, 7]
theorem wake_write : writeP (sealT ⟨5, [], []⟩ [7]) = .ok wakeB := by rfl
theorem wake_open : openP wakeB = .ok (⟨5, [], []⟩, [5, 0], [7]) := by
 have h1 : readP wakeB = .ok ⟨48, [], [⟨5, [], []⟩, algT 11, bitT [7]]⟩ := by rfl
 have h2 : sameP (algT 11) (algT 11) = true := by
  have hw : writeP (algT 11) = .ok (encT (algT 11)) := by rfl
  unfold sameP
  rw [hw]
  exact eqB_rfl _
 unfold openP
 rw [h1]
 simp only []
 unfold openSig
 simp only []
 rw [if_pos ⟨trivial, h2⟩]
 rfl

end Go.Proofs.Ytmbgjhkemlliaaa.Tlv
end

/- The reference's Open, walked: it answers as the program's. -/
section
set_option linter.unusedVariables false
set_option linter.unusedSimpArgs false
namespace Go.Proofs.Ytmbgjhkemlliaaa.Tlv
open Go.RowKit Go.Proofs.YtmbgjhkemlliaaaW.PrintWords Go.Proofs.YtmbgjhkemlliaaaW.PrintLast Go.Proofs.YtmbgjhkemlliaaaW.PrintMore Go.Proofs.Ytmbgjhkemlliaaa.PT

theorem writeP_ok {u : T} {l : List Int} (hu : writeP u = .ok l) : l = encT u ∧ rightT u = true ∧ deepT u ≤ 32 ∧ sizeT u ≤ 20000 := by
 unfold writeP at hu
 by_cases h1 : rightT u = false
 ·rw [if_pos h1] at hu; cases hu
 ·rw [if_neg h1] at hu
  by_cases h2 : 32 < deepT u
  ·rw [if_pos h2] at hu; cases hu
  ·rw [if_neg h2] at hu
   by_cases h3 : 20000 < sizeT u
   ·rw [if_pos h3] at hu; cases hu
   ·rw [if_neg h3] at hu
    injection hu with hu
    exact ⟨hu.symm, by simpa using h1, by omega, by omega⟩
theorem sameP_alg : sameP (algT 11) (algT 11) = true := by
 unfold sameP
 have : writeP (algT 11) = .ok (encT (algT 11)) := by rfl
 rw [this]
 exact eqB_rfl _
/-- What is opened, by the reference's way. -/
theorem openP_via {l : List Int} {x : T} (hb : ∀ v ∈ l, 0 ≤ v ∧ v < 256) (hq : readP l = .ok x) (s : List Int) (hs : ∀ a y z t, x.f2 = [a, y, z] → z = bitT t → s = t) :
 (x.f2.length ≠ 3 → openP l = .err 2) ∧ (∀ a y z, x.f2 = [a, y, z] → (writeP (sealT a s) = .ok l → openP l = .ok (a, encT a, s) ∧ writeP a = .ok (encT a)) ∧ (writeP (sealT a s) ≠ .ok l → openP l = .err 2)) := by
 refine ⟨fun h => ?_, fun a y z h => ⟨fun hw => ?_, fun hw => ?_⟩⟩
 ·unfold openP
  rw [hq]
  simp only
  rw [openSig_tag (.inr h)]
 ·have e := readP_write hw
  rw [hq] at e
  injection e with e
  have hx := writeP_ok hw
  have h2 : openSig x = some (a, s) := by
   rw [e]
   unfold openSig sealT
   simp only
   rw [if_pos (by first | exact ⟨rfl, sameP_alg⟩ | exact ⟨trivial, sameP_alg⟩)]
   rfl
  have hwa : writeP a = .ok (encT a) := by
   have hr := hx.2.1
   have hz := hx.2.2.2
   have hd := hx.2.2.1
   unfold sealT at hr hz hd
   have e48 : holdsB 48 = true := by decide
   rw [rightT, Bool.and_eq_true] at hr
   have h0 := hr.2
   rw [rightL, Bool.and_eq_true] at h0
   rw [sizeT, if_pos e48, sizeL] at hz
   rw [deepT, if_pos e48, deepL] at hd
   have m1 := manyL_le [algT 11, bitT s]
   have m2 := headLen_pos (sizeT a + sizeL [algT 11, bitT s])
   unfold writeP
   rw [if_neg (by rw [h0.1]; simp), if_neg (by omega), if_neg (by omega)]
  unfold openP saidP
  rw [hq]
  simp only
  rw [h2]
  simp only
  rw [hwa]
  exact ⟨rfl, rfl⟩
 ·unfold openP
  rw [hq]
  simp only
  cases ho : openSig x with
  | none => rfl
  | some pr =>
   obtain ⟨a', t⟩ := pr
   exfalso
   obtain ⟨y', z', q1, q2, q3, q4⟩ := openSig_some ho
   rw [h] at q2
   injection q2 with g1 q2
   injection q2 with g2 q2
   injection q2 with g3 _
   subst g1 g2 g3
   have e2 := hs a y z t h (sigP_some q4)
   subst e2
   have ho2 : openP l = .ok (a, saidP a, s) := by unfold openP; rw [hq]; simp only; rw [ho]
   exact hw (open_back hb ho2).1
mutual
theorem wT_size : ∀ t : T, rightT t = true → wT t ≤ sizeT t
 | ⟨tag, body, kids⟩, h => by
  rw [rightT, Bool.and_eq_true, Bool.and_eq_true] at h
  have h1 := wL_size kids h.2
  have h2 := headLen_pos (sizeL kids)
  have h3 := headLen_pos body.length
  have h4 := wL_pos kids
  rw [sizeT, wT]
  by_cases hH : holdsB tag = true
  ·rw [if_pos hH]
   rw [if_pos hH] at h
   have : body = [] := of_decide_eq_true h.1.2
   subst this
   simp only [List.length_nil]
   omega
  ·rw [if_neg hH]
   rw [if_neg hH] at h
   have : kids = [] := of_decide_eq_true h.1.2
   subst this
   rw [wL]
   omega
theorem wL_size : ∀ l : List T, rightL l = true → wL l ≤ sizeL l
 | [], _ => by rw [wL, sizeL]; exact Int.le_refl _
 | t :: l, h => by
  rw [rightL, Bool.and_eq_true] at h
  have h1 := wT_size t h.1
  have h2 := wL_size l h.2
  rw [wL, sizeL]
  omega
end
mutual
theorem enc_by : ∀ t : T, byT t → ∀ v ∈ encT t, 0 ≤ v ∧ v < 256
 | ⟨tag, body, kids⟩, h => by
  rw [byT] at h
  intro v hv
  rw [encT] at hv
  by_cases hH : holdsB tag = true
  ·rw [if_pos hH] at hv
   rcases List.mem_append.1 hv with hv | hv
   ·exact head_bytes _ _ v hv
   ·exact encL_by kids h.2 v hv
  ·rw [if_neg hH] at hv
   rcases List.mem_append.1 hv with hv | hv
   ·exact head_bytes _ _ v hv
   ·exact h.1 v hv
theorem encL_by : ∀ l : List T, byL l → ∀ v ∈ encL l, 0 ≤ v ∧ v < 256
 | [], _ => by intro v hv; rw [encL] at hv; cases hv
 | t :: l, h => by
  rw [byL] at h
  intro v hv
  rw [encL] at hv
  rcases List.mem_append.1 hv with hv | hv
  ·exact enc_by t h.1 v hv
  ·exact encL_by l h.2 v hv
end
mutual
theorem by_enc : ∀ t : T, rightT t = true → (∀ v ∈ encT t, 0 ≤ v ∧ v < 256) → byT t
 | ⟨tag, body, kids⟩, h, hv => by
  rw [rightT, Bool.and_eq_true, Bool.and_eq_true] at h
  rw [encT] at hv
  rw [byT]
  by_cases hH : holdsB tag = true
  ·rw [if_pos hH] at hv h
   have : body = [] := of_decide_eq_true h.1.2
   exact ⟨(fun v hb => by rw [this] at hb; cases hb), byL_enc kids h.2 (fun v hk => hv v (List.mem_append_right _ hk))⟩
  ·rw [if_neg hH] at hv h
   have : kids = [] := of_decide_eq_true h.1.2
   refine ⟨fun v hb => hv v (List.mem_append_right _ hb), ?_⟩
   rw [this]
   trivial
theorem byL_enc : ∀ l : List T, rightL l = true → (∀ v ∈ encL l, 0 ≤ v ∧ v < 256) → byL l
 | [], _, _ => trivial
 | t :: l, h, hv => by
  rw [rightL, Bool.and_eq_true] at h
  rw [encL] at hv
  exact ⟨by_enc t h.1 (fun v hk => hv v (List.mem_append_left _ hk)), byL_enc l h.2 (fun v hk => hv v (List.mem_append_right _ hk))⟩
end
theorem algT_by : byT (algT 11) := by_enc _ (by decide) alg_bytes
theorem sealT_by {a : T} {s : List Int} (ha : byT a) (hs : ∀ v ∈ s, 0 ≤ v ∧ v < 256) : byT (sealT a s) :=
 byT_mk (fun v hv => by cases hv) ⟨ha, algT_by, byT_mk (fun v hv => by rcases List.mem_cons.1 hv with rfl | hv; omega; exact hs v hv) trivial, trivial⟩
/-- The place of the first result. -/
structure Var1 (w W : World) (n0 n1 n2 : Value) : Prop where
 n : W.heap[w.heap.size]? = some (.cells #[n0, n1, n2] 25 (0, 0))
 b : Below w.heap.size w W
theorem Var1.step {w W W2 : World} {n0 n1 n2 : Value} (h : Var1 w W n0 n1 n2) (hb : Below W.heap.size W W2) : Var1 w W2 n0 n1 n2 := ⟨(hb.block _ (heap_lt h.n)).trans h.n, h.b.trans (hb.mono h.b.size)⟩
theorem Var1.set {w W : World} {n0 n1 n2 : Value} (h : Var1 w W n0 n1 n2) (m0 m1 m2 : Value) : Var1 w (((W.setCell ⟨w.heap.size, 0, none⟩ m0).setCell ⟨w.heap.size, 1, none⟩ m1).setCell ⟨w.heap.size, 2, none⟩ m2) m0 m1 m2 :=
 ⟨heap_setCell_same _ _ 2 _ _ _ (heap_setCell_same _ _ 1 _ _ _ (heap_setCell_same _ _ 0 _ _ _ h.n)), Below.setCell (Below.setCell (Below.setCell h.b (p := ⟨w.heap.size, 0, none⟩) (Nat.le_refl _) _) (p := ⟨w.heap.size, 1, none⟩) (Nat.le_refl _) _) (p := ⟨w.heap.size, 2, none⟩) (Nat.le_refl _) _⟩
theorem Var1.new (w : World) : Var1 w (w.alloc (.cells #[.int .i64 0, .slice none 0 0, .slice none 0 0] 25)) (.int .i64 0) (.slice none 0 0) (.slice none 0 0) := ⟨heap_alloc_new w _, (Below.refl _ _).alloc (Nat.le_refl _) _⟩

set_option maxHeartbeats 4000000 in
set_option maxRecDepth 100000 in
theorem ropen_walk (A : Option Addr) (c : Nat) (l : List Int) (w : World) (hr : ReadsInt w .u8 A l.length l) (hc : l.length ≤ c) (hv : ∀ x ∈ l, 0 ≤ x ∧ x < 256) (hl : l.length ≤ 1000000000) :
 Calls Try.prog 10 #[.slice A l.length c] w (OpenPost w l) := by
 have hV := Var1.new w
 obtain ⟨k, hk⟩ := rread_f l hv
 have HV := Lib.hid hV
 have HL := Lib.hid hv
 have HR := Lib.hid (fun w1 (hB : Below w.heap.size w w1) => ReadsInt_below hr hB)
 generalize hPP : OpenPost w l = PP
 have HPP := Lib.hid hPP
 cases hq : readP l with
 | err x =>
  rw [hq] at hk
  have HREAD := Lib.hid (lanyardref04_Read.calls k A c l 0 [] [] x _ (C_of_reads (HR.out _ hV.b) rfl) hc hk)
  have hx : x ≠ 0 := readP_errs hq
  have hx1 := eq_false hx
  have hx2 : (x == 0) = false := beq_eq_false_iff_ne.2 hx
  have HQ := Lib.hid hq
  clear hr hv hV hk hPP hx hq
  go_enter Try.func10, Try.ntmps10
  go_wp2_with (fail)
  refine HREAD.out.mono ?_
  rintro e w3 ⟨v1, v2, rfl, hv1, hv2, hB3⟩
  obtain ⟨X1, x1, rfl⟩ := Kd.R_slice hv1
  obtain ⟨X2, x2, rfl⟩ := Kd.R_slice hv2
  have hV3 := HV.out.step hB3
  have hV4 := hV3.step (W2 := w3.alloc (.cells #[.int .i64 0, .slice X1 0 x1, .slice X2 0 x2] 25)) ((Below.refl _ _).alloc (Nat.le_refl _) _)
  have a0 := Lib.cell_of_heap hV4.n 0
  have a1 := Lib.cell_of_heap hV4.n 1
  have a2 := Lib.cell_of_heap hV4.n 2
  have fa0 := Lib.frozen_of_heap hV4.n 0
  have fa1 := Lib.frozen_of_heap hV4.n 1
  have fa2 := Lib.frozen_of_heap hV4.n 2
  have hne : (w.heap.size = w3.heap.size) = False := eq_false (by have := heap_lt hV3.n; omega)
  have HV4 := Lib.hid hV4
  have el1 : ([] : List Int).length = 0 := rfl
  have el2 : ([] : List S25).length = 0 := rfl
  rw [el1, el2]
  clear hV3 hV4 hB3 hv1 hv2 HREAD HV el1 el2
  go_wp2
  have hF := HV4.out.set (.int .i64 0) (.slice none 0 0) (.slice none 0 0)
  generalize (((w3.alloc (.cells #[.int .i64 0, .slice X1 0 x1, .slice X2 0 x2] 25)).setCell ⟨w.heap.size, 0, none⟩ (.int .i64 0)).setCell ⟨w.heap.size, 1, none⟩ (.slice none 0 0)).setCell ⟨w.heap.size, 2, none⟩ (.slice none 0 0) = WF at hF ⊢
  have z0 := Lib.cell_of_heap hF.n 0
  have z1 := Lib.cell_of_heap hF.n 1
  have z2 := Lib.cell_of_heap hF.n 2
  refine bodyPost_ret (v := .tuple #[.agg #[.int .i64 0, .slice none 0 0, .slice none 0 0], .slice none 0 0, .slice none 0 0, .int .i64 x]) (by simp [results, Try.results10, go_sem, z0, z1, z2]) rfl ?_
  have hpp := HPP.out
  subst hpp
  unfold OpenPost openP
  rw [HQ.out]
  exact ⟨rfl, hF.b⟩
 | ok x =>
  rw [hq] at hk
  obtain ⟨b1, b2, b3, b4, b5⟩ := readP_ok hv hq
  have HREAD := Lib.hid (lanyardref04_Read.calls k A c l x.f0 x.f1 x.f2 0 _ (C_of_reads (HR.out _ hV.b) rfl) hc hk)
  have HQ := Lib.hid hq
  have HX := Lib.hid (And.intro b1 (And.intro b2 (And.intro b3 b5)))
  clear hr hv hV hk hPP hq b1 b2 b3 b4 b5
  by_cases h3 : x.f2.length = 3
  ·obtain ⟨xt, xb, xk⟩ := x
   obtain ⟨a, y, z, rfl⟩ : ∃ a y z, xk = [a, y, z] := by
    match xk, h3 with
    | [a, y, z], _ => exact ⟨a, y, z, rfl⟩
   dsimp only at HREAD HX HQ h3
   clear h3
   have e3 : ([a, y, z] : List S25).length = 3 := rfl
   obtain ⟨g1, g2, g3, g4⟩ := HX.out
   obtain ⟨ka1, ka2, ka3, ka4⟩ := kids_parts ⟨xt, xb, [a, y, z]⟩ g2 a (by simp)
   obtain ⟨kz1, kz2, kz3, kz4⟩ := kids_parts ⟨xt, xb, [a, y, z]⟩ g2 z (by simp)
   have hzb : ∀ v ∈ z.f1, 0 ≤ v ∧ v < 256 := fun v hv => HL.out v (by rw [g1]; exact kz3 v (body_in z kz1 v hv))
   have wa := wT_size a ka1
   have wz := wT_size z kz1
   have hzl : z.f1.length ≤ 20000 := by
    have := (kids_w (n := z) (by omega)).2.1
    obtain ⟨z0, z1, z2⟩ := z
    rw [wT] at wz
    have := wL_pos z2
    dsimp only
    omega
   have hwa : wT a ≤ 20000 := by omega
   obtain ⟨kof, s, m, e, hof, hs1, hs2, hs3⟩ := rof_f z (by omega) hzb
   have hvia := openP_via HL.out HQ.out s (fun a' y' z' t h1 h2 => by injection h1 with _ h1; injection h1 with _ h1; injection h1 with h1 _; exact hs3 t (h1.trans h2))
   have HOF := Lib.hid hof
   have HVIA := Lib.hid (hvia.2 a y z rfl)
   have hby := sealT_by (by_enc a ka1 (fun v hv => HL.out v (by rw [g1]; exact ka3 v hv))) hs2
   have HBY := Lib.hid hby
   have HW := Lib.hid hwa
   have HS := Lib.hid (And.intro hs1 (And.intro hs2 hzl))
   clear g1 g2 g3 g4 ka1 ka2 ka3 ka4 kz1 kz2 kz3 kz4 hzb wa wz hzl hwa hof hs1 hs2 hs3 hvia hby
   go_enter Try.func10, Try.ntmps10
   go_wp2_with (fail)
   refine HREAD.out.mono ?_
   rintro e' w3 ⟨v1, v2, rfl, hv1, hv2, hB3⟩
   have hnr := NodeR.of (n := ⟨xt, xb, [a, y, z]⟩) hv1 hv2
   obtain ⟨X1, x1, X2, x2, rfl, rfl, hnx⟩ := hnr.form
   have hsz1 : (w.alloc (.cells #[.int .i64 0, .slice none 0 0, .slice none 0 0] 25)).heap.size = w.heap.size + 1 := by simp
   rw [hsz1] at hnr
   dsimp only at hnr hnx ⊢
   have hV3 := HV.out.step hB3
   have hal : Below w3.heap.size w3 (w3.alloc (.cells #[.int .i64 xt, .slice X1 xb.length x1, .slice X2 3 x2] 25)) := (Below.refl _ _).alloc (Nat.le_refl _) _
   have hp4 : (w3.alloc (.cells #[.int .i64 xt, .slice X1 xb.length x1, .slice X2 3 x2] 25)).heap[w3.heap.size]? = some (.cells #[.int .i64 xt, .slice X1 xb.length x1, .slice X2 3 x2] 25 (0, 0)) := heap_alloc_new w3 _
   have hne : (w.heap.size = w3.heap.size) = False := eq_false (by have := heap_lt hV3.n; omega)
   have hlt : w.heap.size + 1 ≤ w3.heap.size := heap_lt hV3.n
   rw [e3]
   have hV4 := hV3.step hal
   have hn4 := hnr.below hal
   generalize hw4 : w3.alloc (.cells #[.int .i64 xt, .slice X1 xb.length x1, .slice X2 3 x2] 25) = w4 at hal hp4 hV4 hn4
   obtain ⟨ad, N1, n1, N2, n2, hX2, u0, u1, u2, l1, i1, l2, i2⟩ := at_T25 (hn4.at (n := ⟨xt, xb, [a, y, z]⟩)).2.2.1 0 (by omega) (by show (0 : Int) < 3; omega)
   obtain ⟨ad', Z1, z1, Z2, z2, e', r0, r1, r2, m1, j1, m2, j2⟩ := at_T25 (hn4.at (n := ⟨xt, xb, [a, y, z]⟩)).2.2.1 2 (by omega) (by show (2 : Int) < 3; omega)
   rw [hX2] at e'
   injection e' with e'
   subst e' hX2
   have hra : rd_T25 [a, y, z] 0 = a := rfl
   have hrz : rd_T25 [a, y, z] 2 = z := rfl
   rw [hra] at u0 u1 u2 l1 i1 l2 i2
   rw [hrz] at r0 r1 r2 m1 j1 m2 j2
   replace u0 : w4.cell? ad = some (.int .i64 a.f0) := u0
   replace u1 : w4.cell? ⟨ad.block, ad.off + 1, none⟩ = some (.slice N1 a.f1.length n1) := u1
   replace u2 : w4.cell? ⟨ad.block, ad.off + 2, none⟩ = some (.slice N2 a.f2.length n2) := u2
   replace r0 : w4.cell? ⟨ad.block, ad.off + 6, none⟩ = some (.int .i64 z.f0) := r0
   replace r1 : w4.cell? ⟨ad.block, ad.off + 6 + 1, none⟩ = some (.slice Z1 z.f1.length z1) := r1
   replace r2 : w4.cell? ⟨ad.block, ad.off + 6 + 2, none⟩ = some (.slice Z2 z.f2.length z2) := r2
   have HK : Hid (∀ W, Below w4.heap.size w4 W → (W.cell? ⟨w3.heap.size, 2, none⟩ = some (.slice (some ad) 3 x2) ∧ W.cell? ad = some (.int .i64 a.f0) ∧ W.cell? ⟨ad.block, ad.off + 1, none⟩ = some (.slice N1 a.f1.length n1) ∧ W.cell? ⟨ad.block, ad.off + 2, none⟩ = some (.slice N2 a.f2.length n2)) ∧ (W.cell? ⟨w.heap.size, 0, none⟩ = some (.int .i64 0) ∧ W.cell? ⟨w.heap.size, 1, none⟩ = some (.slice none 0 0) ∧ W.cell? ⟨w.heap.size, 2, none⟩ = some (.slice none 0 0) ∧ ∀ j, W.frozen? ⟨w.heap.size, j, none⟩ = false) ∧ Var1 w W (.int .i64 0) (.slice none 0 0) (.slice none 0 0) ∧ NodeR W (w.heap.size + 1) w3.heap.size ⟨xt, xb, [a, y, z]⟩ (.slice X1 xb.length x1) (.slice (some ad) 3 x2) ∧ NodeAt W a N1 n1 N2 n2) := by
    refine Lib.hid (fun W hB => ?_)
    have hV := hV4.step hB
    exact ⟨⟨Lib.cell_of_heap ((hB.block _ (heap_lt hp4)).trans hp4) 2, (hB.cell (World.block_lt_of_cell? w4 _ u0)).trans u0, (hB.cell (World.block_lt_of_cell? w4 _ u1)).trans u1, (hB.cell (World.block_lt_of_cell? w4 _ u2)).trans u2⟩, ⟨Lib.cell_of_heap hV.n 0, Lib.cell_of_heap hV.n 1, Lib.cell_of_heap hV.n 2, Lib.frozen_of_heap hV.n⟩, hV, hn4.below (hB.mono (Nat.le_trans (by have := hal.size; omega) (Nat.le_refl _))), NodeAt.below ⟨i1, l1, i2, l2⟩ hB⟩
   have HNZ := Lib.hid (show NodeAt w4 z Z1 z1 Z2 z2 from ⟨j1, m1, j2, m2⟩)
   have HLT := Lib.hid (And.intro hlt hal.size)
   have p2 := Lib.cell_of_heap hp4 2
   clear hV4 hn4 hal hp4 hV3 hnr hnx hv1 hv2 hB3 HREAD HV u0 u1 u2 l1 i1 l2 i2 m1 j1 m2 j2 hra hrz hsz1 hlt e3
   subst hw4
   go_wp2_with (fail)
   refine (lanyardref05_Of.calls kof z.f0 Z1 z1 z.f1 Z2 z2 z.f2 s m e _ HNZ.out.1 HNZ.out.2.1 HNZ.out.2.2.1 HNZ.out.2.2.2 HOF.out).mono ?_
   rintro e' w5 ⟨v, rfl, hG, hB5⟩
   obtain ⟨G, cg, rfl⟩ := Kd.R_slice hG
   have HG := Lib.hid hG
   have HB5 := Lib.hid hB5
   obtain ⟨⟨q0, q1, q2, q3⟩, _, _, _, hna⟩ := HK.out _ hB5
   obtain ⟨_, _, f1, gg1, kk1⟩ := Kd.R_reads hG
   injection f1 with f1 _ f1'
   subst f1 f1'
   have HSEAL := Lib.hid (rseal_walk a s (by have := HW.out; omega) (by have := HS.out.1; have := HS.out.2.2; omega) N1 n1 N2 n2 G cg w5 hna (reads_of_C kk1) gg1)
   clear hG hB5 hna gg1 kk1 HNZ r0 r1 r2 p2
   go_wp2_with (fail)
   refine HSEAL.out.mono ?_
   rintro e' w6 ⟨F, fl, fc, fx, rfl, hfr, hF, hB6⟩
   have hB46 := HB5.out.trans (hB6.mono HB5.out.size)
   obtain ⟨⟨o0, o1, o2, o3⟩, ⟨t0, t1, t2, t3⟩, hVv, hnn, hna⟩ := HK.out _ hB46
   have t30 := t3 0
   have t31 := t3 1
   have t32 := t3 2
   have HG6 := Lib.hid (Kd.R_below HG.out hB6)
   have HF := Lib.hid hF
   have HB46 := Lib.hid hB46
   have HV6 := Lib.hid hVv
   have HB5s := Lib.hid (And.intro HB5.out.size (And.intro hB6.size hB46.size))
   clear hB6 hF HSEAL HB5 q0 q1 q2 q3 hnn HG t3 hB46
   cases hws : writeP (sealT a s) with
   | err fe =>
    rw [hws] at hfr
    injection hfr with hfl hfx
    subst hfl hfx
    have hfe := writeP_err hws
    have HNW : Hid (writeP (sealT a s) ≠ .ok l) := Lib.hid (by rw [hws]; intro h; cases h)
    have hx1 := eq_false (show ¬ (fe = 0) by omega)
    have hx2 : (fe == 0) = false := beq_eq_false_iff_ne.2 (by omega)
    clear hfe hws
    go_wp2
    have hF := HV6.out.set (.int .i64 0) (.slice none 0 0) (.slice none 0 0)
    generalize ((w6.setCell ⟨w.heap.size, 0, none⟩ (.int .i64 0)).setCell ⟨w.heap.size, 1, none⟩ (.slice none 0 0)).setCell ⟨w.heap.size, 2, none⟩ (.slice none 0 0) = WF at hF ⊢
    have z0 := Lib.cell_of_heap hF.n 0
    have z1 := Lib.cell_of_heap hF.n 1
    have z2 := Lib.cell_of_heap hF.n 2
    refine bodyPost_ret (v := .tuple #[.agg #[.int .i64 0, .slice none 0 0, .slice none 0 0], .slice none 0 0, .slice none 0 0, .int .i64 2]) (by simp [results, Try.results10, go_sem, z0, z1, z2]) rfl ?_
    have hpp := HPP.out
    subst hpp
    unfold OpenPost
    rw [HVIA.out.2 HNW.out]
    exact ⟨rfl, hF.b⟩
   | ok cl =>
    rw [hws] at hfr
    injection hfr with hfl hfx
    subst hfl hfx
    have hcv2 := Kd.C_string (P := Try.prog) (A := A) (c := c) Try.underlying22 Try.underlying5 Try.underlying9 (C_of_reads (HR.out _ hVv.b) rfl)
    obtain ⟨_, _, f1, gg1, kk1⟩ := Kd.R_reads HF.out
    injection f1 with f1 _ f1'
    subst f1 f1'
    have hcv1 := Kd.C_string (P := Try.prog) (A := F) (c := fc) Try.underlying22 Try.underlying5 Try.underlying9 kk1
    have HCB := Lib.hid (writeP_ok hws)
    have HWS := Lib.hid hws
    clear gg1 kk1 hVv hws
    by_cases heq : cl = l
    ·have hq0 : (strOfNums cl).toList = (strOfNums l).toList := by rw [heq]
     have hq1 : ((strOfNums cl).toList == (strOfNums l).toList) = true := beq_iff_eq.2 hq0
     have hq2 : ((strOfNums cl).toList != (strOfNums l).toList) = false := by rw [hq0]; exact bne_self_eq_false _
     have hq3 : decide ((strOfNums cl).toList = (strOfNums l).toList) = true := decide_eq_true hq0
     have hq4 := eq_true hq0
     have HEQ := Lib.hid heq
     have hvw := HVIA.out.1 (by rw [HWS.out, heq])
     have HOK := Lib.hid hvw
     obtain ⟨kw, hkw⟩ := rwrite_f a (by have := HW.out; omega)
     have HWR := Lib.hid (rwrite_R a (by have := HW.out; omega) N1 n1 N2 n2 w6 hna)
     clear hq0 heq hvw hkw hna
     go_wp2_with (fail)
     refine HWR.out.mono ?_
     rintro e' w7 ⟨S, sl, cs, sx, rfl, hsr, hS, hB7⟩
     rw [HOK.out.2] at hsr
     injection hsr with hsl hsx
     subst hsl hsx
     have hB47 := HB46.out.trans (hB7.mono HB46.out.size)
     obtain ⟨⟨o0, o1, o2, o3⟩, ⟨t0, t1, t2, t3⟩, hVv, hnn, hna⟩ := HK.out _ hB47
     have t30 := t3 0
     have t31 := t3 1
     have t32 := t3 2
     have HG7 := Lib.hid (Kd.R_below HG6.out hB7)
     have HSS := Lib.hid hS
     have HV7 := Lib.hid hVv
     have HN7 := Lib.hid hnn
     have HU := Lib.hid (And.intro o1 (And.intro o2 o3))
     have HB47 := Lib.hid hB47
     clear hS hB7 hVv hnn hna t3 hB47 HWR
     go_wp2
     have hF := HV7.out.set (.int .i64 a.f0) (.slice N1 a.f1.length n1) (.slice N2 a.f2.length n2)
     have hmv : ∀ k, w.heap.size + 1 ≤ k → (((w7.setCell ⟨w.heap.size, 0, none⟩ (.int .i64 a.f0)).setCell ⟨w.heap.size, 1, none⟩ (.slice N1 a.f1.length n1)).setCell ⟨w.heap.size, 2, none⟩ (.slice N2 a.f2.length n2)).heap[k]? = w7.heap[k]? := fun k hk =>
      (heap_setCell_other _ _ _ _ (by show k ≠ w.heap.size; omega)).trans ((heap_setCell_other _ _ _ _ (by show k ≠ w.heap.size; omega)).trans (heap_setCell_other _ _ _ _ (by show k ≠ w.heap.size; omega)))
     generalize ((w7.setCell ⟨w.heap.size, 0, none⟩ (.int .i64 a.f0)).setCell ⟨w.heap.size, 1, none⟩ (.slice N1 a.f1.length n1)).setCell ⟨w.heap.size, 2, none⟩ (.slice N2 a.f2.length n2) = WF at hF hmv ⊢
     have z0 := Lib.cell_of_heap hF.n 0
     have z1 := Lib.cell_of_heap hF.n 1
     have z2 := Lib.cell_of_heap hF.n 2
     refine bodyPost_ret (v := .tuple #[.agg #[.int .i64 a.f0, .slice N1 a.f1.length n1, .slice N2 a.f2.length n2], .slice S (encT a).length cs, .slice G s.length cg, .int .i64 0]) (by simp [results, Try.results10, go_sem, z0, z1, z2]) rfl ?_
     have hpp := HPP.out
     subst hpp
     unfold OpenPost
     rw [HOK.out.1]
     have hlt := HLT.out
     have hb5 := HB5s.out
     have hnF := (HN7.out.move (w1 := WF) (fun k hk _ => hmv k hk)).at (n := ⟨xt, xb, [a, y, z]⟩)
     obtain ⟨ad', N1', n1', N2', n2', e', v0, v1, v2, l1, i1, l2, i2⟩ := at_T25 hnF.2.2.1 0 (by omega) (by show (0 : Int) < 3; omega)
     injection e' with e'
     subst e'
     have hrd : rd_T25 [a, y, z] 0 = a := rfl
     rw [hrd] at v1 v2 l1 i1 l2 i2
     replace v1 : WF.cell? ⟨ad.block, ad.off + 1, none⟩ = some (.slice N1' a.f1.length n1') := v1
     replace v2 : WF.cell? ⟨ad.block, ad.off + 2, none⟩ = some (.slice N2' a.f2.length n2') := v2
     have had : w.heap.size + 1 ≤ ad.block := by
      have := (Kd.R_bound HN7.out.k).1 ad.block rfl
      exact this.2.1
     have hcell : ∀ b : Addr, w.heap.size + 1 ≤ b.block → WF.cell? b = w7.cell? b := by
      intro b hb
      unfold World.cell?
      rw [hmv _ hb]
     obtain ⟨_, u1, u2⟩ := HU.out
     have w1 := ((hcell ⟨ad.block, ad.off + 1, none⟩ had).trans u1).symm.trans v1
     have w2 := ((hcell ⟨ad.block, ad.off + 2, none⟩ had).trans u2).symm.trans v2
     injection w1 with w1
     injection w1 with w1 _ w1'
     injection w2 with w2
     injection w2 with w2 _ w2'
     subst w1 w1' w2 w2'
     have hG2 := Kd.R_move (w1 := WF) (Kd.R_mono (Kd.R_bound HG7.out) (fun k hk => hk.2.1)) (fun k hk => hmv k (by omega))
     have hS2 := Kd.R_move (w1 := WF) (Kd.R_mono (Kd.R_bound HSS.out) (fun k hk => hk.2.1)) (fun k hk => hmv k (by omega))
     obtain ⟨_, _, f1, g1, k1⟩ := Kd.R_reads hG2
     injection f1 with f1 _ f1'
     subst f1 f1'
     obtain ⟨_, _, f2, g2, k2⟩ := Kd.R_reads hS2
     injection f2 with f2 _ f2'
     subst f2 f2'
     exact ⟨N1, n1, N2, n2, S, cs, G, cg, rfl, ⟨i1, l1, i2, l2⟩, reads_of_C k2, g2, reads_of_C k1, g1, hF.b⟩
    ·have hby : ∀ v ∈ cl, 0 ≤ v ∧ v < 256 := by rw [HCB.out.1]; exact enc_by _ HBY.out
     have hq0 : ¬ (strOfNums cl).toList = (strOfNums l).toList := fun h => heq (by
      have : eqB cl l = true := by unfold eqB; rw [h]; exact beq_self_eq_true _
      exact eqB_eq hby HL.out this)
     have hq1 : ((strOfNums cl).toList == (strOfNums l).toList) = false := beq_eq_false_iff_ne.2 hq0
     have hq2 : ((strOfNums cl).toList != (strOfNums l).toList) = true := bne_iff_ne.2 hq0
     have hq3 : decide ((strOfNums cl).toList = (strOfNums l).toList) = false := decide_eq_false hq0
     have hq4 := eq_false hq0
     have HNW : Hid (writeP (sealT a s) ≠ .ok l) := Lib.hid (by rw [HWS.out]; intro h; injection h with h; exact heq h)
     clear hq0 hby heq
     go_wp2
     have hF := HV6.out.set (.int .i64 0) (.slice none 0 0) (.slice none 0 0)
     generalize ((w6.setCell ⟨w.heap.size, 0, none⟩ (.int .i64 0)).setCell ⟨w.heap.size, 1, none⟩ (.slice none 0 0)).setCell ⟨w.heap.size, 2, none⟩ (.slice none 0 0) = WF at hF ⊢
     have z0 := Lib.cell_of_heap hF.n 0
     have z1 := Lib.cell_of_heap hF.n 1
     have z2 := Lib.cell_of_heap hF.n 2
     refine bodyPost_ret (v := .tuple #[.agg #[.int .i64 0, .slice none 0 0, .slice none 0 0], .slice none 0 0, .slice none 0 0, .int .i64 2]) (by simp [results, Try.results10, go_sem, z0, z1, z2]) rfl ?_
     have hpp := HPP.out
     subst hpp
     unfold OpenPost
     rw [HVIA.out.2 HNW.out]
     exact ⟨rfl, hF.b⟩
  ·have hd1 := eq_false (show ¬ ((x.f2.length : Int) = 3) by omega)
   have hd2 : ((x.f2.length : Int) == 3) = false := beq_eq_false_iff_ne.2 (by omega)
   have hd3 : ((x.f2.length : Int) != 3) = true := bne_iff_ne.2 (by omega)
   have hd4 : (x.f2.length == 3) = false := beq_eq_false_iff_ne.2 h3
   have hd5 := eq_false h3
   have HOP : Hid (openP l = .err 2) := Lib.hid (by unfold openP; rw [HQ.out]; simp only; rw [openSig_tag (.inr h3)])
   clear h3
   go_enter Try.func10, Try.ntmps10
   go_wp2_with (fail)
   refine HREAD.out.mono ?_
   rintro e' w3 ⟨v1, v2, rfl, hv1, hv2, hB3⟩
   obtain ⟨X1, x1, rfl⟩ := Kd.R_slice hv1
   obtain ⟨X2, x2, rfl⟩ := Kd.R_slice hv2
   have hV3 := HV.out.step hB3
   have hV4 := hV3.step (W2 := w3.alloc (.cells #[.int .i64 x.f0, .slice X1 x.f1.length x1, .slice X2 x.f2.length x2] 25)) ((Below.refl _ _).alloc (Nat.le_refl _) _)
   have a0 := Lib.cell_of_heap hV4.n 0
   have a1 := Lib.cell_of_heap hV4.n 1
   have a2 := Lib.cell_of_heap hV4.n 2
   have fa0 := Lib.frozen_of_heap hV4.n 0
   have fa1 := Lib.frozen_of_heap hV4.n 1
   have fa2 := Lib.frozen_of_heap hV4.n 2
   have hne : (w.heap.size = w3.heap.size) = False := eq_false (by have := heap_lt hV3.n; omega)
   have HV4 := Lib.hid hV4
   clear hV3 hV4 hB3 hv1 hv2 HREAD HV
   go_wp2
   have hF := HV4.out.set (.int .i64 0) (.slice none 0 0) (.slice none 0 0)
   generalize (((w3.alloc (.cells #[.int .i64 x.f0, .slice X1 x.f1.length x1, .slice X2 x.f2.length x2] 25)).setCell ⟨w.heap.size, 0, none⟩ (.int .i64 0)).setCell ⟨w.heap.size, 1, none⟩ (.slice none 0 0)).setCell ⟨w.heap.size, 2, none⟩ (.slice none 0 0) = WF at hF ⊢
   have z0 := Lib.cell_of_heap hF.n 0
   have z1 := Lib.cell_of_heap hF.n 1
   have z2 := Lib.cell_of_heap hF.n 2
   refine bodyPost_ret (v := .tuple #[.agg #[.int .i64 0, .slice none 0 0, .slice none 0 0], .slice none 0 0, .slice none 0 0, .int .i64 2]) (by simp [results, Try.results10, go_sem, z0, z1, z2]) rfl ?_
   have hpp := HPP.out
   subst hpp
   unfold OpenPost
   rw [HOP.out]
   exact ⟨rfl, hF.b⟩

end Go.Proofs.Ytmbgjhkemlliaaa.Tlv
end

/- awake, and SpkiOpens, walked. -/
section
set_option linter.unusedVariables false
set_option linter.unusedSimpArgs false
namespace Go.Proofs.Ytmbgjhkemlliaaa.Tlv
open Go.RowKit Go.Proofs.YtmbgjhkemlliaaaW.PrintWords Go.Proofs.YtmbgjhkemlliaaaW.PrintLast Go.Proofs.YtmbgjhkemlliaaaW.PrintMore Go.Proofs.Ytmbgjhkemlliaaa.PT

set_option maxHeartbeats 4000000 in
set_option maxRecDepth 100000 in
theorem awake_walk (w : World) : Calls Try.prog 5 #[] w fun e w' => e = .returned (.bool true) ∧ Below w.heap.size w w' := by
 have hb0 : (w.alloc (.cells #[.int .u8 7] 5)).heap[w.heap.size]? = some (.cells ([7].map (Value.int .u8)).toArray 5 (0, 0)) := heap_alloc_new w _
 have hB1 : Below w.heap.size w (w.alloc (.cells #[.int .u8 7] 5)) := (Below.refl _ _).alloc (Nat.le_refl _) _
 have HSEAL := Lib.hid (seal_walk ⟨5, [], []⟩ [7] (fun _ => by decide) (by simp) none 0 none 0 (some ⟨w.heap.size, 0, none⟩) 1 (w.alloc (.cells #[.int .u8 7] 5)) ⟨C_nil _ _ _, Nat.le_refl _, C_nil _ _ _, Nat.le_refl _⟩ (reads_of_C (C_ints hb0 (by simp))) (by simp))
 have HB1 := Lib.hid hB1
 clear hb0 hB1
 go_enter Try.func5, Try.ntmps5
 go_wp2_with (fail)
 refine HSEAL.out.mono ?_
 intro e w2 hp
 unfold WritePost at hp
 rw [wake_write] at hp
 obtain ⟨A, c, rfl, ho, hB2⟩ := hp
 obtain ⟨_, _, f1, g1, k1⟩ := Kd.R_reads ho
 injection f1 with f1 _ f1'
 subst f1 f1'
 have hBw := HB1.out.trans (hB2.mono HB1.out.size)
 have HOPEN := Lib.hid (open_walk A c wakeB w2 (reads_of_C k1) g1 (by decide) (by decide))
 have HBW := Lib.hid hBw
 clear ho hB2 k1 g1 hBw HSEAL HB1
 have hwl : wakeB.length = 23 := rfl
 go_wp2_with (fail)
 rw [hwl] at HOPEN
 refine HOPEN.out.mono ?_
 intro e w3 hp
 unfold OpenPost at hp
 rw [wake_open] at hp
 obtain ⟨A1, c1, A2, c2, S, cs, G, cg, rfl, hn, hS, hcs, hG, hcg, hB3⟩ := hp
 have hBw := HBW.out.trans (hB3.mono HBW.out.size)
 have HB3 := Lib.hid hBw
 have hal : Below w3.heap.size w3 (w3.alloc (.cells #[.int .i64 5, .slice A1 0 c1, .slice A2 0 c2] 25)) := (Below.refl _ _).alloc (Nat.le_refl _) _
 have s0 : strOfNums [5, 0] = ⟨#[5, 0]⟩ := rfl
 have s1 : strOfNums [7] = ⟨#[7]⟩ := rfl
 have hcv1 := Kd.C_string (P := Try.prog) (A := S) (c := cs) Try.underlying22 Try.underlying5 Try.underlying9 (Kd.C_below (C_of_reads hS rfl) hal)
 have hcv2 := Kd.C_string (P := Try.prog) (A := G) (c := cg) Try.underlying22 Try.underlying5 Try.underlying9 (Kd.C_below (C_of_reads hG rfl) hal)
 rw [s0, show ([5, 0] : List Int).length = 2 from rfl] at hcv1
 rw [s1, show ([7] : List Int).length = 1 from rfl] at hcv2
 have HBF := Lib.hid (HB3.out.trans (hal.mono HB3.out.size))
 clear hn hB3 hBw HOPEN HBW hal s0 s1 hS hG hcs hcg
 go_wp2
 go_ret
 exact ⟨by first | rfl | (simp; done) | decide, HBF.out⟩

set_option maxHeartbeats 4000000 in
set_option maxRecDepth 100000 in
theorem opens_walk (A : Option Addr) (c : Nat) (l : List Int) (w : World) (hr : ReadsInt w .u8 A l.length l) (hc : l.length ≤ c) (hv : ∀ x ∈ l, 0 ≤ x ∧ x < 256) (hl : l.length ≤ 1000000000) :
 Calls Try.prog 4 #[.slice A l.length c] w fun e w' => e = .returned (.bool true) ∧ Below w.heap.size w w' := by
 have HR := Lib.hid (fun w' (hB : Below w.heap.size w w') => ReadsInt_below hr hB)
 have HV := Lib.hid hv
 clear hr hv
 by_cases h5 : 5000 < l.length
 ·have hd : decide ((5000 : Int) < (l.length : Int)) = true := decide_eq_true (by omega)
  have hd2 := eq_true (show (5000 : Int) < (l.length : Int) by omega)
  clear h5
  go_enter Try.func4, Try.ntmps4
  go_wp2_with (fail)
  refine (awake_walk _).mono ?_
  rintro e w2 ⟨rfl, hB⟩
  go_wp2
  go_ret
  exact ⟨rfl, hB⟩
 ·have hd : decide ((5000 : Int) < (l.length : Int)) = false := decide_eq_false (by omega)
  have hd2 := eq_false (show ¬ (5000 : Int) < (l.length : Int) by omega)
  clear h5
  go_enter Try.func4, Try.ntmps4
  go_wp2_with (fail)
  refine (awake_walk _).mono ?_
  rintro e w2 ⟨rfl, hB2⟩
  have HB2 := Lib.hid hB2
  have HOPEN := Lib.hid (open_walk A c l w2 (HR.out _ hB2) hc HV.out hl)
  clear hB2
  go_wp2_with (fail)
  refine HOPEN.out.mono ?_
  intro e w3 hp
  clear HOPEN
  unfold OpenPost at hp
  cases hq : openP l with
  | err x =>
   rw [hq] at hp
   obtain ⟨rfl, hB3⟩ := hp
   have hx := openP_errs hq
   have hx1 := eq_false hx
   have hx2 : (x == 0) = false := beq_eq_false_iff_ne.2 hx
   have HB3 := Lib.hid (HB2.out.trans (hB3.mono HB2.out.size))
   have HBF := Lib.hid (HB3.out.alloc HB3.out.size (.cells #[.int .i64 0, .slice none 0 0, .slice none 0 0] 25))
   clear hB3 hx hq HB2
   go_wp2
   go_ret
   exact ⟨by first | rfl | (simp; done) | decide, HBF.out⟩
  | ok pr =>
   obtain ⟨a, s, t⟩ := pr
   rw [hq] at hp
   obtain ⟨A1, c1, A2, c2, S, cs, G, cg, rfl, hn, hS, hcs, hG, hcg, hB3⟩ := hp
   obtain ⟨k1, k2, k3, k4, k5, k6, k7⟩ := open_back HV.out hq
   have hal : Below w3.heap.size w3 (w3.alloc (.cells #[.int .i64 a.f0, .slice A1 a.f1.length c1, .slice A2 a.f2.length c2] 25)) := (Below.refl _ _).alloc (Nat.le_refl _) _
   have HSEAL := Lib.hid (seal_walk a t (fun _ => by omega) (by omega) A1 c1 A2 c2 G cg _ (hn.below hal) (ReadsInt_below hG hal) hcg)
   have HB3 := Lib.hid (HB2.out.trans ((hB3.mono HB2.out.size).trans (hal.mono (Nat.le_trans HB2.out.size hB3.size))))
   have HK := Lib.hid k1
   have HRB := Lib.hid (fun w' (hB : Below w.heap.size w w') => HR.out w' hB)
   have hs1 := eq_true (show 0 < (s.length : Int) by omega)
   have hs2 := eq_true (show (s.length : Int) < (l.length : Int) by omega)
   have hs3 : decide (0 < (s.length : Int)) = true := decide_eq_true (by omega)
   have hs4 : decide ((s.length : Int) < (l.length : Int)) = true := decide_eq_true (by omega)
   have hs5 := eq_true k2
   have hs6 := eq_true k3
   have hs7 : s ≠ [] := by intro h; rw [h] at k2; simp at k2
   clear hn hS hcs hG hcg hB3 k1 k2 k3 k4 k5 k6 k7 hq hal HB2
   go_wp2_with (fail)
   refine HSEAL.out.mono ?_
   intro e w4 hp
   unfold WritePost at hp
   rw [HK.out] at hp
   obtain ⟨X, cx, rfl, ho, hB4⟩ := hp
   have HB4 := Lib.hid (HB3.out.trans (hB4.mono HB3.out.size))
   obtain ⟨_, _, f1, g1, q1⟩ := Kd.R_reads ho
   injection f1 with f1 _ f1'
   subst f1 f1'
   have hcv1 := Kd.C_string (P := Try.prog) (A := X) (c := cx) Try.underlying22 Try.underlying5 Try.underlying9 q1
   have hcv2 := Kd.C_string (P := Try.prog) (A := A) (c := c) Try.underlying22 Try.underlying5 Try.underlying9 (C_of_reads (HR.out _ HB4.out) rfl)
   clear ho hB4 q1 HSEAL HB3
   go_wp2
   go_ret
   exact ⟨by first | rfl | (simp; done) | decide, HB4.out⟩

/-- The same for a row of any length: Read looks at no more than its length if it is too long. -/
theorem opens_any (A : Option Addr) (c : Nat) (l : List Int) (w : World) (hr : ReadsInt w .u8 A l.length l) (hc : l.length ≤ c) (hv : ∀ x ∈ l, 0 ≤ x ∧ x < 256) :
 Calls Try.prog 4 #[.slice A l.length c] w fun e w' => e = .returned (.bool true) ∧ Below w.heap.size w w' := by
 by_cases h5 : 5000 < l.length
 ·have hd : decide ((5000 : Int) < (l.length : Int)) = true := decide_eq_true (by omega)
  have hd2 := eq_true (show (5000 : Int) < (l.length : Int) by omega)
  clear h5 hr hv
  go_enter Try.func4, Try.ntmps4
  go_wp2_with (fail)
  refine (awake_walk _).mono ?_
  rintro e w2 ⟨rfl, hB⟩
  go_wp2
  go_ret
  exact ⟨rfl, hB⟩
 ·exact opens_walk A c l w hr hc hv (by omega)

end Go.Proofs.Ytmbgjhkemlliaaa.Tlv
end

/- SpkiSeals, walked. -/
section
set_option linter.unusedVariables false
set_option linter.unusedSimpArgs false
namespace Go.Proofs.Ytmbgjhkemlliaaa.Tlv
open Go.RowKit Go.Proofs.YtmbgjhkemlliaaaW.PrintWords Go.Proofs.YtmbgjhkemlliaaaW.PrintLast Go.Proofs.YtmbgjhkemlliaaaW.PrintMore Go.Proofs.Ytmbgjhkemlliaaa.PT

theorem WritePost.R {w : World} {n : T} {e : Ending} {w' : World} (h : WritePost w n e w') : WriteR w n e w' := by
 unfold WritePost at h
 unfold WriteR
 cases hq : writeP n with
 | err x =>
  rw [hq] at h
  obtain ⟨rfl, hb⟩ := h
  exact ⟨none, [], 0, x, rfl, rfl, Kd.R_nil _ _ _ _ _, hb⟩
 | ok l =>
  rw [hq] at h
  obtain ⟨A, c, rfl, ho, hb⟩ := h
  exact ⟨A, l, c, 0, rfl, rfl, ho, hb⟩
/-- What Open gives, in one form. -/
def openO (b : List Int) : T × List Int × List Int × Int := match openP b with
 | .err x => (⟨0, [], []⟩, [], [], x)
 | .ok (a, s, t) => (a, s, t, 0)
def OpenUni (w : World) (b : List Int) (e : Ending) (w' : World) : Prop := ∃ (a : T) (s t : List Int) (x : Int) (A1 : Option Addr) (c1 : Nat) (A2 : Option Addr) (c2 : Nat) (S : Option Addr) (cs : Nat) (G : Option Addr) (cg : Nat),
 openO b = (a, s, t, x) ∧ e = .returned (.tuple #[.agg #[.int .i64 a.f0, .slice A1 a.f1.length c1, .slice A2 a.f2.length c2], .slice S s.length cs, .slice G t.length cg, .int .i64 x]) ∧ NodeAt w' a A1 c1 A2 c2 ∧ ReadsInt w' .u8 S s.length s ∧ s.length ≤ cs ∧ ReadsInt w' .u8 G t.length t ∧ t.length ≤ cg ∧ Below w.heap.size w w'
theorem OpenPost.uni {w : World} {b : List Int} {e : Ending} {w' : World} (h : OpenPost w b e w') : OpenUni w b e w' := by
 unfold OpenPost at h
 unfold OpenUni openO
 cases hq : openP b with
 | err x =>
  rw [hq] at h
  obtain ⟨rfl, hb⟩ := h
  exact ⟨⟨0, [], []⟩, [], [], x, none, 0, none, 0, none, 0, none, 0, rfl, rfl, ⟨C_nil _ _ _, Nat.le_refl _, C_nil _ _ _, Nat.le_refl _⟩, reads_of_C (C_nil _ _ _), Nat.le_refl _, reads_of_C (C_nil _ _ _), Nat.le_refl _, hb⟩
 | ok p =>
  obtain ⟨a, s, t⟩ := p
  rw [hq] at h
  obtain ⟨A1, c1, A2, c2, S, cs, G, cg, rfl, hn, h1, h2, h3, h4, hb⟩ := h
  exact ⟨a, s, t, 0, A1, c1, A2, c2, S, cs, G, cg, rfl, rfl, hn, h1, h2, h3, h4, hb⟩
theorem openO_w {b : List Int} (hb : ∀ v ∈ b, 0 ≤ v ∧ v < 256) {a : T} {s t : List Int} {x : Int} (h : openO b = (a, s, t, x)) : wT a ≤ 20000 := by
 unfold openO at h
 cases hq : openP b with
 | err y => rw [hq] at h; injection h with h _; subst h; decide
 | ok p =>
  obtain ⟨a', s', t'⟩ := p
  rw [hq] at h
  injection h with h _
  subst h
  obtain ⟨_, _, _, k4, k5, _, _⟩ := open_back hb hq
  have := wT_size a' k4
  omega

set_option maxHeartbeats 4000000 in
set_option maxRecDepth 100000 in
theorem seals_any (n : T) (sig b : List Int) (hs : ∀ v ∈ sig, 0 ≤ v ∧ v < 256) (hb : ∀ v ∈ b, 0 ≤ v ∧ v < 256) (A1 : Option Addr) (c1 : Nat) (A2 : Option Addr) (c2 : Nat) (As : Option Addr) (cs : Nat) (B : Option Addr) (cb : Nat) (w : World) (hn : NodeAt w n A1 c1 A2 c2) (hsr : (Kd.int .u8).C w As sig.length sig) (hsc : sig.length ≤ cs) (hbr : (Kd.int .u8).C w B b.length b) (hbc : b.length ≤ cb) :
 Calls Try.prog 3 #[.agg #[.int .i64 n.f0, .slice A1 n.f1.length c1, .slice A2 n.f2.length c2], .slice As sig.length cs, .slice B b.length cb] w fun e w' => e = .returned (.bool true) ∧ Below w.heap.size w w' := by
 have hbox : (w.alloc (.cells #[.int .i64 n.f0, .slice A1 n.f1.length c1, .slice A2 n.f2.length c2] 25)).heap[w.heap.size]? = some (.cells #[.int .i64 n.f0, .slice A1 n.f1.length c1, .slice A2 n.f2.length c2] 25 (0, 0)) := heap_alloc_new w _
 have hB1 : Below w.heap.size w (w.alloc (.cells #[.int .i64 n.f0, .slice A1 n.f1.length c1, .slice A2 n.f2.length c2] 25)) := (Below.refl _ _).alloc (Nat.le_refl _) _
 have HN := Lib.hid (fun w1 (hB : Below w.heap.size w w1) => hn.below hB)
 have HSR := Lib.hid (fun w1 (hB : Below w.heap.size w w1) => Kd.C_below hsr hB)
 have HBR := Lib.hid (fun w1 (hB : Below w.heap.size w w1) => Kd.C_below hbr hB)
 have HBY := Lib.hid (And.intro hs hb)
 have HBOX := Lib.hid hbox
 have HB1 := Lib.hid hB1
 clear hbox hB1 hn hsr hbr hs hb
 go_enter Try.func3, Try.ntmps3
 go_wp2_with (fail)
 refine (awake_walk _).mono ?_
 rintro e w2 ⟨rfl, hB2⟩
 have hb2 := (hB2.block _ (heap_lt HBOX.out)).trans HBOX.out
 have hBw := HB1.out.trans (hB2.mono HB1.out.size)
 obtain ⟨ok, hok, hlight⟩ := light_walk n A1 c1 A2 c2 w2 (HN.out _ hBw)
 have HL := Lib.hid hlight
 have HOK := Lib.hid hok
 have HB2 := Lib.hid hBw
 have a0 := Lib.cell_of_heap hb2 0
 have a1 := Lib.cell_of_heap hb2 1
 have a2 := Lib.cell_of_heap hb2 2
 have HX2 := Lib.hid hb2
 clear hB2 hBw hlight hok hb2 HBOX HB1
 go_wp2_with (fail)
 refine HL.out.mono ?_
 rintro e w3 ⟨rfl, hB3⟩
 have hb3 := (hB3.block _ (heap_lt HX2.out)).trans HX2.out
 have hBw := HB2.out.trans (hB3.mono HB2.out.size)
 have HB3 := Lib.hid hBw
 have HX3 := Lib.hid hb3
 clear hB3 hBw hb3 HL HX2 HB2 a0 a1 a2
 by_cases hsk : ok = true ∧ sig.length ≤ 1000 ∧ b.length ≤ 3000
 ·obtain ⟨hok2, h1, h2⟩ := hsk
  have hw := HOK.out hok2
  subst hok2
  have hd1 := eq_false (show ¬ ((1000 : Int) < (sig.length : Int)) by omega)
  have hd2 := eq_false (show ¬ ((3000 : Int) < (b.length : Int)) by omega)
  have hd3 : decide ((1000 : Int) < (sig.length : Int)) = false := decide_eq_false (by omega)
  have hd4 : decide ((3000 : Int) < (b.length : Int)) = false := decide_eq_false (by omega)
  have hsw := size_wT n
  have HLN := Lib.hid (And.intro h1 (And.intro h2 (And.intro hw hsw)))
  have a0 := Lib.cell_of_heap HX3.out 0
  have a1 := Lib.cell_of_heap HX3.out 1
  have a2 := Lib.cell_of_heap HX3.out 2
  have HSEAL := Lib.hid (seal_walk n sig (fun _ => by omega) (by omega) A1 c1 A2 c2 As cs w3 (HN.out _ HB3.out) (reads_of_C (HSR.out _ HB3.out)) hsc)
  clear h1 h2 hw hsw HOK
  go_wp2_with (fail)
  refine HSEAL.out.mono ?_
  intro e w4 hp
  obtain ⟨X, lx, cx, ex, rfl, hres1, hX, hB4⟩ := hp.R
  have hb4 := (hB4.block _ (heap_lt HX3.out)).trans HX3.out
  have hBw := HB3.out.trans (hB4.mono HB3.out.size)
  have HB4 := Lib.hid hBw
  have HX4 := Lib.hid hb4
  have HXR := Lib.hid hX
  have HR1 := Lib.hid hres1
  have b0 := Lib.cell_of_heap hb4 0
  have b1 := Lib.cell_of_heap hb4 1
  have b2 := Lib.cell_of_heap hb4 2
  have HRSEAL := Lib.hid (rseal_walk n sig (by have := HLN.out.2.2.1; omega) (by have := HLN.out.1; omega) A1 c1 A2 c2 As cs w4 (HN.out _ hBw) (reads_of_C (HSR.out _ hBw)) hsc)
  clear hp hB4 hBw hb4 hX hres1 HSEAL a0 a1 a2 HX3 HB3
  go_wp2_with (fail)
  refine HRSEAL.out.mono ?_
  rintro e w5 ⟨Y, ly, cy, ey, rfl, hres2, hY, hB5⟩
  rw [HR1.out] at hres2
  injection hres2 with hq1 hq2
  subst hq1 hq2
  have hBw := HB4.out.trans (hB5.mono HB4.out.size)
  have HB5 := Lib.hid hBw
  have HYR := Lib.hid hY
  have HXR5 := Lib.hid (Kd.R_below HXR.out hB5)
  have HOPEN := Lib.hid (open_walk B cb b w5 (reads_of_C (HBR.out _ hBw)) hbc HBY.out.2 (by have := HLN.out.2.1; omega))
  clear hB5 hBw hY HRSEAL b0 b1 b2 HX4 HB4 HXR
  go_wp2_with (fail)
  refine HOPEN.out.mono ?_
  intro e w6 hp
  obtain ⟨a, s, t, x, N1, n1, N2, n2, S, ds, G, dg, hO, rfl, hna, hS, hsd, hG, htd, hB6⟩ := hp.uni
  have hal : Below w6.heap.size w6 (w6.alloc (.cells #[.int .i64 a.f0, .slice N1 a.f1.length n1, .slice N2 a.f2.length n2] 25)) := (Below.refl _ _).alloc (Nat.le_refl _) _
  have hbx : (w6.alloc (.cells #[.int .i64 a.f0, .slice N1 a.f1.length n1, .slice N2 a.f2.length n2] 25)).heap[w6.heap.size]? = some (.cells #[.int .i64 a.f0, .slice N1 a.f1.length n1, .slice N2 a.f2.length n2] 25 (0, 0)) := heap_alloc_new w6 _
  have hBw := HB5.out.trans ((hB6.trans (hal.mono hB6.size)).mono HB5.out.size)
  have HB6 := Lib.hid hBw
  have HO := Lib.hid hO
  have HX6 := Lib.hid hbx
  have HNA := Lib.hid (hna.below hal)
  have HST := Lib.hid (And.intro (ReadsInt_below hS hal) (And.intro hsd (And.intro (ReadsInt_below hG hal) htd)))
  have HXY := Lib.hid (And.intro (Kd.R_below (Kd.R_below HXR5.out hB6) hal) (Kd.R_below (Kd.R_below HYR.out hB6) hal))
  have HROPEN := Lib.hid (ropen_walk B cb b _ (reads_of_C (HBR.out _ hBw)) hbc HBY.out.2 (by have := HLN.out.2.1; omega))
  clear hp hO hna hS hsd hG htd hB6 hal hbx hBw HOPEN HXR5 HYR HB5
  go_wp2_with (fail)
  refine HROPEN.out.mono ?_
  intro e w7 hp
  obtain ⟨a', s', t', x', M1, m1, M2, m2, S', ds', G', dg', hO', rfl, hna', hS', hsd', hG', htd', hB7⟩ := hp.uni
  rw [HO.out] at hO'
  injection hO' with q1 hO'
  injection hO' with q2 hO'
  injection hO' with q3 q4
  subst q1 q2 q3 q4
  have hal : Below w7.heap.size w7 (w7.alloc (.cells #[.int .i64 a.f0, .slice M1 a.f1.length m1, .slice M2 a.f2.length m2] 25)) := (Below.refl _ _).alloc (Nat.le_refl _) _
  have hbx : (w7.alloc (.cells #[.int .i64 a.f0, .slice M1 a.f1.length m1, .slice M2 a.f2.length m2] 25)).heap[w7.heap.size]? = some (.cells #[.int .i64 a.f0, .slice M1 a.f1.length m1, .slice M2 a.f2.length m2] 25 (0, 0)) := heap_alloc_new w7 _
  have h68 := hB7.trans (hal.mono hB7.size)
  have hb6 := (h68.block _ (heap_lt HX6.out)).trans HX6.out
  have hBw := HB6.out.trans (h68.mono HB6.out.size)
  have c0 := Lib.cell_of_heap hb6 0
  have c1' := Lib.cell_of_heap hb6 1
  have c2' := Lib.cell_of_heap hb6 2
  have HB8 := Lib.hid hBw
  obtain ⟨ks, hks⟩ := sm_any a (by have := openO_w HBY.out.2 HO.out; omega) a
  rw [eqT_rfl] at hks
  have hn1 := HNA.out.below h68
  have hn2 := hna'.below hal
  have HSAME := Lib.hid (lanyardref04_Same.calls ks a.f0 N1 n1 a.f1 N2 n2 a.f2 a.f0 M1 m1 a.f1 M2 m2 a.f2 true _ hn1.1 hn1.2.1 hn1.2.2.1 hn1.2.2.2 hn2.1 hn2.2.1 hn2.2.2.1 hn2.2.2.2 hks)
  have HST8 := Lib.hid (And.intro (ReadsInt_below HST.out.1 h68) (ReadsInt_below HST.out.2.2.1 h68))
  have HST8' := Lib.hid (And.intro (ReadsInt_below hS' hal) (ReadsInt_below hG' hal))
  have HXY8 := Lib.hid (And.intro (Kd.R_below HXY.out.1 h68) (Kd.R_below HXY.out.2 h68))
  have d0 := Lib.cell_of_heap hbx 0
  have d1 := Lib.cell_of_heap hbx 1
  have d2 := Lib.cell_of_heap hbx 2
  clear hp hna' hS' hsd' hG' htd' hB7 hal hbx h68 hb6 hBw hks hn1 hn2 HROPEN HXY HST HNA HX6 HB6
  go_wp2_with (fail)
  refine HSAME.out.mono ?_
  rintro e w9 ⟨rfl, hB9⟩
  have hBf := HB8.out.trans (hB9.mono HB8.out.size)
  have HBF := Lib.hid hBf
  obtain ⟨_, _, f1, g1, k1⟩ := Kd.R_reads (Kd.R_below HXY8.out.1 hB9)
  injection f1 with f1 _ f1'
  subst f1 f1'
  obtain ⟨_, _, f2, g2, k2⟩ := Kd.R_reads (Kd.R_below HXY8.out.2 hB9)
  injection f2 with f2 _ f2'
  subst f2 f2'
  have hcv1 := Kd.C_string (P := Try.prog) (A := X) (c := cx) Try.underlying22 Try.underlying5 Try.underlying9 k1
  have hcv2 := Kd.C_string (P := Try.prog) (A := Y) (c := cy) Try.underlying22 Try.underlying5 Try.underlying9 k2
  have hcv3 := Kd.C_string (P := Try.prog) (A := S) (c := ds) Try.underlying22 Try.underlying5 Try.underlying9 (C_of_reads (ReadsInt_below HST8.out.1 hB9) rfl)
  have hcv4 := Kd.C_string (P := Try.prog) (A := G) (c := dg) Try.underlying22 Try.underlying5 Try.underlying9 (C_of_reads (ReadsInt_below HST8.out.2 hB9) rfl)
  have hcv5 := Kd.C_string (P := Try.prog) (A := S') (c := ds') Try.underlying22 Try.underlying5 Try.underlying9 (C_of_reads (ReadsInt_below HST8'.out.1 hB9) rfl)
  have hcv6 := Kd.C_string (P := Try.prog) (A := G') (c := dg') Try.underlying22 Try.underlying5 Try.underlying9 (C_of_reads (ReadsInt_below HST8'.out.2 hB9) rfl)
  clear hBf hB9 k1 k2 g1 g2 HSAME HXY8 HST8 HST8' HB8 c0 c1' c2' d0 d1 d2
  go_wp2
  go_ret
  exact ⟨by first | rfl | (simp; done) | decide, HBF.out⟩
 ·cases hok2 : ok with
  | false =>
   clear hsk HOK HX3
   go_wp2
   go_ret
   exact ⟨rfl, HB3.out⟩
  | true =>
   by_cases h1 : sig.length ≤ 1000
   ·have h2 : ¬ b.length ≤ 3000 := fun h2 => hsk ⟨hok2, h1, h2⟩
    have hd1 := eq_false (show ¬ ((1000 : Int) < (sig.length : Int)) by omega)
    have hd2 := eq_true (show ((3000 : Int) < (b.length : Int)) by omega)
    have hd3 : decide ((1000 : Int) < (sig.length : Int)) = false := decide_eq_false (by omega)
    have hd4 : decide ((3000 : Int) < (b.length : Int)) = true := decide_eq_true (by omega)
    clear hsk HOK HX3 h1 h2
    go_wp2
    go_ret
    exact ⟨rfl, HB3.out⟩
   ·have hd1 := eq_true (show ((1000 : Int) < (sig.length : Int)) by omega)
    have hd3 : decide ((1000 : Int) < (sig.length : Int)) = true := decide_eq_true (by omega)
    clear hsk HOK HX3 h1
    go_wp2
    go_ret
    exact ⟨rfl, HB3.out⟩

end Go.Proofs.Ytmbgjhkemlliaaa.Tlv
end
