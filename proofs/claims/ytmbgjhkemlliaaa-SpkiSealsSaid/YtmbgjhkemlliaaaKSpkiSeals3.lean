/- Merged by a program of this session (wip/tools/pack.py). -/
import Derived.Test.YtmbgjhkemlliaaaKSpkiSeals2
import Derived.Lib.Bytes
/- The machine side: functions as plain Lean functions, and that the calls come to what these say; written by a program of this session (wip/tools/inc.py over the kit's printer). -/
section
namespace Go.Proofs.Ytmbgjhkemlliaaa.PT
open Go.RowKit Go.Proofs.YtmbgjhkemlliaaaW.PrintWords Go.Proofs.YtmbgjhkemlliaaaW.PrintLast Go.Proofs.YtmbgjhkemlliaaaW.PrintMore
attribute [local go_sem] max2_int min2_int max_two min_two max_three min_three max_four min_four   -- for this text's walks alone
set_option linter.unusedVariables false
set_option linter.unusedSimpArgs false

/-! ### scalar_Bits: function 31 -/
def scalar_Bits.f (l0 : List Int) (a1 : Int) : Option (Int × List Int × (List (S25)) × Int) := if a1 < 0 then (some (0, ([] : List Int), ([] : List (S25)), 1)) else (if (wrap64 ((wrap64 (8 * (l0.length : Int))) - a1)) < 0 then (some (0, ([] : List Int), ([] : List (S25)), 1)) else (if (wrap64 ((wrap64 (8 * (l0.length : Int))) - a1)) > 7 then (some (0, ([] : List Int), ([] : List (S25)), 1)) else (if (wrap64 ((wrap64 (8 * (l0.length : Int))) - a1)) > 0 then (if 0 ≤ (wrap64 ((l0.length : Int) - 1)) then (if (wrap64 ((l0.length : Int) - 1)) < (l0.length : Int) then (if 0 ≤ (wrap64 ((wrap64 (8 * (l0.length : Int))) - a1)) then (if (Go.bits .and .u8 (rd l0 (wrap64 ((l0.length : Int) - 1))) (((shl .u8 1 (wrap64 ((wrap64 (8 * (l0.length : Int))) - a1))) - 1) % 256)) = 0 then ((some (([(wrap64 ((wrap64 (8 * (l0.length : Int))) - a1)) % 256] : List Int) : List Int)).bind fun y348 => (if y348.length + l0.length < 140737488355328 then (some (3, (y348 ++ l0), ([] : List (S25)), 0)) else (none))) else (some (0, ([] : List Int), ([] : List (S25)), 1))) else (none)) else (none)) else (none)) else ((some (([(wrap64 ((wrap64 (8 * (l0.length : Int))) - a1)) % 256] : List Int) : List Int)).bind fun y354 => (if y354.length + l0.length < 140737488355328 then (some (3, (y354 ++ l0), ([] : List (S25)), 0)) else (none))))))
set_option maxHeartbeats 8000000 in
set_option maxRecDepth 100000 in
theorem scalar_Bits.calls (A0 : Option Addr) (c0 : Nat) (l0 : List Int) (a1 : Int) (r1 : Int) (r2 : List Int) (r3 : List (S25)) (r4 : Int) (w : World) (hr0 : Kd.C (Kd.int .u8) w A0 l0.length l0) (hc0 : l0.length ≤ c0) (h : scalar_Bits.f l0 a1 = some (r1, r2, r3, r4)) :
 Calls Try.prog 31 #[.slice A0 l0.length c0, .int .i64 a1] w fun e w' => ∃ v1_ v2_ : Value, e = .returned (.tuple #[.agg #[.int .i64 r1, v1_, v2_], .int .i64 r4]) ∧ Kd.R (Kd.int .u8) 5 w' w.heap.size (fun _ => True) v1_ r2 ∧ Kd.R k25 25 w' w.heap.size (fun k_ => some k_ ≠ (v1_ : Value).ownBlock) v2_ r3 ∧ Below w.heap.size w w' := by
 have hu25 := Try.underlying25
 have HR0 := Aside0.mk hr0
 have HC0 := Aside0.mk hc0
 clear hr0 hc0
 have HB := Aside0.mk (Below.refl w.heap.size w)
 have H : (if a1 < 0 then (some (0, ([] : List Int), ([] : List (S25)), 1)) else (if (wrap64 ((wrap64 (8 * (l0.length : Int))) - a1)) < 0 then (some (0, ([] : List Int), ([] : List (S25)), 1)) else (if (wrap64 ((wrap64 (8 * (l0.length : Int))) - a1)) > 7 then (some (0, ([] : List Int), ([] : List (S25)), 1)) else (if (wrap64 ((wrap64 (8 * (l0.length : Int))) - a1)) > 0 then (if 0 ≤ (wrap64 ((l0.length : Int) - 1)) then (if (wrap64 ((l0.length : Int) - 1)) < (l0.length : Int) then (if 0 ≤ (wrap64 ((wrap64 (8 * (l0.length : Int))) - a1)) then (if (Go.bits .and .u8 (rd l0 (wrap64 ((l0.length : Int) - 1))) (((shl .u8 1 (wrap64 ((wrap64 (8 * (l0.length : Int))) - a1))) - 1) % 256)) = 0 then ((some (([(wrap64 ((wrap64 (8 * (l0.length : Int))) - a1)) % 256] : List Int) : List Int)).bind fun y348 => (if y348.length + l0.length < 140737488355328 then (some (3, (y348 ++ l0), ([] : List (S25)), 0)) else (none))) else (some (0, ([] : List Int), ([] : List (S25)), 1))) else (none)) else (none)) else (none)) else ((some (([(wrap64 ((wrap64 (8 * (l0.length : Int))) - a1)) % 256] : List Int) : List Int)).bind fun y354 => (if y354.length + l0.length < 140737488355328 then (some (3, (y354 ++ l0), ([] : List (S25)), 0)) else (none))))))) = some (r1, r2, r3, r4) := h
 clear h
 by_cases c3 : a1 < 0
 ·rw [if_pos c3] at H
  have c3b0 : decide (a1 < 0) = true := decide_eq_true c3
  clear c3
  simp only [Option.some.injEq, Prod.mk.injEq] at H
  obtain ⟨rfl, rfl, rfl, rfl⟩ := H
  go_enter Try.func31, Try.ntmps31
  go_wp2_with (first | ((with_reducible refine gate_dst (N := 4) rfl ?_); (try (refine gate_guard (by rfl) ?_; dsimp only)); refine box_event ?hg (N := 4) ?hd (cs := #[.int .i64 0, .slice none 0 0, .slice none 0 0]) (t := 25) ?hr ?_; (case hd => rfl); (case hg => rfl); (case hr => first | (go_simp; done) | (go_simp; rfl)); intro gb346 hg w4 hbox hb; have n0_ := Aside0.mk (below_step (by repeat (first | (with_reducible first | exact HB.out | apply below_alloc | apply pw_below_drewN | apply below_drew1) | exact HB.out)) hb); have n1_ := Aside0.mk (hbox); have n2_ := Aside0.mk ((by rw [hg]; exact (below_size (by repeat (first | (with_reducible first | exact HB.out | apply below_alloc | apply pw_below_drewN | apply below_drew1) | exact HB.out))) : w.heap.size ≤ gb346)); have n3_ := Aside0.mk ((by rw [hg]; exact (below_size (by repeat (first | (with_reducible first | exact HB.out | apply below_alloc | apply pw_below_drewN | apply below_drew1) | exact HB.out))) : w.heap.size ≤ gb346)); clear HB; have HB := n0_; have BK346 := n1_; have GW346 := n2_; have GE346 := n3_; clear n0_ n1_ n2_ n3_; clear hb hbox hg; have hcz5_0 : w4.cell? ⟨gb346, 0, none⟩ = some (.int .i64 0) := (blk_cell BK346.out 0).trans rfl; have hcz5_1 : w4.cell? ⟨gb346, 1, none⟩ = some (.slice none 0 0) := (blk_cell BK346.out 1).trans rfl; have hcz5_2 : w4.cell? ⟨gb346, 2, none⟩ = some (.slice none 0 0) := (blk_cell BK346.out 2).trans rfl; have hfz5_0 := blk_frozen BK346.out 0; have hfz5_1 := blk_frozen BK346.out 1; have hfz5_2 := blk_frozen BK346.out 2))
  repeat (go_quiet (first | ((with_reducible refine gate_dst (N := 4) rfl ?_); (try (refine gate_guard (by rfl) ?_; dsimp only)); refine box_event ?hg (N := 4) ?hd (cs := #[.int .i64 0, .slice none 0 0, .slice none 0 0]) (t := 25) ?hr ?_; (case hd => rfl); (case hg => rfl); (case hr => first | (go_simp; done) | (go_simp; rfl)); intro gb346 hg w4 hbox hb; have n0_ := Aside0.mk (below_step (by repeat (first | (with_reducible first | exact HB.out | apply below_alloc | apply pw_below_drewN | apply below_drew1) | exact HB.out)) hb); have n1_ := Aside0.mk (hbox); have n2_ := Aside0.mk ((by rw [hg]; exact (below_size (by repeat (first | (with_reducible first | exact HB.out | apply below_alloc | apply pw_below_drewN | apply below_drew1) | exact HB.out))) : w.heap.size ≤ gb346)); have n3_ := Aside0.mk ((by rw [hg]; exact (below_size (by repeat (first | (with_reducible first | exact HB.out | apply below_alloc | apply pw_below_drewN | apply below_drew1) | exact HB.out))) : w.heap.size ≤ gb346)); clear HB; have HB := n0_; have BK346 := n1_; have GW346 := n2_; have GE346 := n3_; clear n0_ n1_ n2_ n3_; clear hb hbox hg; have hcz5_0 : w4.cell? ⟨gb346, 0, none⟩ = some (.int .i64 0) := (blk_cell BK346.out 0).trans rfl; have hcz5_1 : w4.cell? ⟨gb346, 1, none⟩ = some (.slice none 0 0) := (blk_cell BK346.out 1).trans rfl; have hcz5_2 : w4.cell? ⟨gb346, 2, none⟩ = some (.slice none 0 0) := (blk_cell BK346.out 2).trans rfl; have hfz5_0 := blk_frozen BK346.out 0; have hfz5_1 := blk_frozen BK346.out 1; have hfz5_2 := blk_frozen BK346.out 2)); try go_wp2_with (first | ((with_reducible refine gate_dst (N := 4) rfl ?_); (try (refine gate_guard (by rfl) ?_; dsimp only)); refine box_event ?hg (N := 4) ?hd (cs := #[.int .i64 0, .slice none 0 0, .slice none 0 0]) (t := 25) ?hr ?_; (case hd => rfl); (case hg => rfl); (case hr => first | (go_simp; done) | (go_simp; rfl)); intro gb346 hg w4 hbox hb; have n0_ := Aside0.mk (below_step (by repeat (first | (with_reducible first | exact HB.out | apply below_alloc | apply pw_below_drewN | apply below_drew1) | exact HB.out)) hb); have n1_ := Aside0.mk (hbox); have n2_ := Aside0.mk ((by rw [hg]; exact (below_size (by repeat (first | (with_reducible first | exact HB.out | apply below_alloc | apply pw_below_drewN | apply below_drew1) | exact HB.out))) : w.heap.size ≤ gb346)); have n3_ := Aside0.mk ((by rw [hg]; exact (below_size (by repeat (first | (with_reducible first | exact HB.out | apply below_alloc | apply pw_below_drewN | apply below_drew1) | exact HB.out))) : w.heap.size ≤ gb346)); clear HB; have HB := n0_; have BK346 := n1_; have GW346 := n2_; have GE346 := n3_; clear n0_ n1_ n2_ n3_; clear hb hbox hg; have hcz5_0 : w4.cell? ⟨gb346, 0, none⟩ = some (.int .i64 0) := (blk_cell BK346.out 0).trans rfl; have hcz5_1 : w4.cell? ⟨gb346, 1, none⟩ = some (.slice none 0 0) := (blk_cell BK346.out 1).trans rfl; have hcz5_2 : w4.cell? ⟨gb346, 2, none⟩ = some (.slice none 0 0) := (blk_cell BK346.out 2).trans rfl; have hfz5_0 := blk_frozen BK346.out 0; have hfz5_1 := blk_frozen BK346.out 1; have hfz5_2 := blk_frozen BK346.out 2)))
  refine bodyPost_ret (results_ct rfl _ _ gb346 25 #[.int .i64 0, .slice none 0 0, .slice none 0 0] (0, 0) _ rfl (by (with_reducible repeat (first | refine blk_drewN ?_ _ | refine blk_drew ?_ | refine blk_alloc ?_ _)); refine blk_put (cs := #[.int .i64 0, .slice none 0 0, .slice none 0 0]) ?_ 2 _ rfl; (with_reducible repeat (first | refine blk_drewN ?_ _ | refine blk_drew ?_ | refine blk_alloc ?_ _)); refine blk_put (cs := #[.int .i64 0, .slice none 0 0, .slice none 0 0]) ?_ 1 _ rfl; (with_reducible repeat (first | refine blk_drewN ?_ _ | refine blk_drew ?_ | refine blk_alloc ?_ _)); refine blk_put (cs := #[.int .i64 0, .slice none 0 0, .slice none 0 0]) ?_ 0 _ rfl; (with_reducible repeat (first | refine blk_drewN ?_ _ | refine blk_drew ?_ | refine blk_alloc ?_ _)); exact BK346.out) Try.underlying25 rfl (by kernel_rfl)) rfl ?_
  exact ⟨_, _, by first | rfl | (simp [errW_none, errW_some] <;> rfl) | (simp [*, errW_none, errW_some] <;> rfl), by first | exact Kd.R_nil _ _ _ _ _ | exact Kd.N_nil _ _ _ _ _ | exact Kd.V_nil _ _ _ _ _ | exact Kd.Q_nil _ _ _ _ _ | exact Kd.S_nil _ _ _ _ _, by first | exact Kd.R_nil _ _ _ _ _ | exact Kd.N_nil _ _ _ _ _ | exact Kd.V_nil _ _ _ _ _ | exact Kd.Q_nil _ _ _ _ _ | exact Kd.S_nil _ _ _ _ _, by repeat (first | (with_reducible first | exact HB.out | apply below_alloc | apply pw_below_drewN | apply below_drew1 | refine below_set ?_ GE346.out) | exact HB.out)⟩
 ·rw [if_neg c3] at H
  have c3b0 : decide (a1 < 0) = false := decide_eq_false c3
  clear c3
  by_cases c6 : (wrap64 ((wrap64 (8 * (l0.length : Int))) - a1)) < 0
  ·rw [if_pos c6] at H
   have c6b0 : decide ((wrap64 ((wrap64 (8 * (l0.length : Int))) - a1)) < 0) = true := decide_eq_true c6
   clear c6
   simp only [Option.some.injEq, Prod.mk.injEq] at H
   obtain ⟨rfl, rfl, rfl, rfl⟩ := H
   go_enter Try.func31, Try.ntmps31
   go_wp2_with (first | ((with_reducible refine gate_dst (N := 4) rfl ?_); (try (refine gate_guard (by rfl) ?_; dsimp only)); refine box_event ?hg (N := 4) ?hd (cs := #[.int .i64 0, .slice none 0 0, .slice none 0 0]) (t := 25) ?hr ?_; (case hd => rfl); (case hg => rfl); (case hr => first | (go_simp; done) | (go_simp; rfl)); intro gb346 hg w7 hbox hb; have n0_ := Aside0.mk (below_step (by repeat (first | (with_reducible first | exact HB.out | apply below_alloc | apply pw_below_drewN | apply below_drew1) | exact HB.out)) hb); have n1_ := Aside0.mk (hbox); have n2_ := Aside0.mk ((by rw [hg]; exact (below_size (by repeat (first | (with_reducible first | exact HB.out | apply below_alloc | apply pw_below_drewN | apply below_drew1) | exact HB.out))) : w.heap.size ≤ gb346)); have n3_ := Aside0.mk ((by rw [hg]; exact (below_size (by repeat (first | (with_reducible first | exact HB.out | apply below_alloc | apply pw_below_drewN | apply below_drew1) | exact HB.out))) : w.heap.size ≤ gb346)); clear HB; have HB := n0_; have BK346 := n1_; have GW346 := n2_; have GE346 := n3_; clear n0_ n1_ n2_ n3_; clear hb hbox hg; have hcz8_0 : w7.cell? ⟨gb346, 0, none⟩ = some (.int .i64 0) := (blk_cell BK346.out 0).trans rfl; have hcz8_1 : w7.cell? ⟨gb346, 1, none⟩ = some (.slice none 0 0) := (blk_cell BK346.out 1).trans rfl; have hcz8_2 : w7.cell? ⟨gb346, 2, none⟩ = some (.slice none 0 0) := (blk_cell BK346.out 2).trans rfl; have hfz8_0 := blk_frozen BK346.out 0; have hfz8_1 := blk_frozen BK346.out 1; have hfz8_2 := blk_frozen BK346.out 2))
   repeat (go_quiet (first | ((with_reducible refine gate_dst (N := 4) rfl ?_); (try (refine gate_guard (by rfl) ?_; dsimp only)); refine box_event ?hg (N := 4) ?hd (cs := #[.int .i64 0, .slice none 0 0, .slice none 0 0]) (t := 25) ?hr ?_; (case hd => rfl); (case hg => rfl); (case hr => first | (go_simp; done) | (go_simp; rfl)); intro gb346 hg w7 hbox hb; have n0_ := Aside0.mk (below_step (by repeat (first | (with_reducible first | exact HB.out | apply below_alloc | apply pw_below_drewN | apply below_drew1) | exact HB.out)) hb); have n1_ := Aside0.mk (hbox); have n2_ := Aside0.mk ((by rw [hg]; exact (below_size (by repeat (first | (with_reducible first | exact HB.out | apply below_alloc | apply pw_below_drewN | apply below_drew1) | exact HB.out))) : w.heap.size ≤ gb346)); have n3_ := Aside0.mk ((by rw [hg]; exact (below_size (by repeat (first | (with_reducible first | exact HB.out | apply below_alloc | apply pw_below_drewN | apply below_drew1) | exact HB.out))) : w.heap.size ≤ gb346)); clear HB; have HB := n0_; have BK346 := n1_; have GW346 := n2_; have GE346 := n3_; clear n0_ n1_ n2_ n3_; clear hb hbox hg; have hcz8_0 : w7.cell? ⟨gb346, 0, none⟩ = some (.int .i64 0) := (blk_cell BK346.out 0).trans rfl; have hcz8_1 : w7.cell? ⟨gb346, 1, none⟩ = some (.slice none 0 0) := (blk_cell BK346.out 1).trans rfl; have hcz8_2 : w7.cell? ⟨gb346, 2, none⟩ = some (.slice none 0 0) := (blk_cell BK346.out 2).trans rfl; have hfz8_0 := blk_frozen BK346.out 0; have hfz8_1 := blk_frozen BK346.out 1; have hfz8_2 := blk_frozen BK346.out 2)); try go_wp2_with (first | ((with_reducible refine gate_dst (N := 4) rfl ?_); (try (refine gate_guard (by rfl) ?_; dsimp only)); refine box_event ?hg (N := 4) ?hd (cs := #[.int .i64 0, .slice none 0 0, .slice none 0 0]) (t := 25) ?hr ?_; (case hd => rfl); (case hg => rfl); (case hr => first | (go_simp; done) | (go_simp; rfl)); intro gb346 hg w7 hbox hb; have n0_ := Aside0.mk (below_step (by repeat (first | (with_reducible first | exact HB.out | apply below_alloc | apply pw_below_drewN | apply below_drew1) | exact HB.out)) hb); have n1_ := Aside0.mk (hbox); have n2_ := Aside0.mk ((by rw [hg]; exact (below_size (by repeat (first | (with_reducible first | exact HB.out | apply below_alloc | apply pw_below_drewN | apply below_drew1) | exact HB.out))) : w.heap.size ≤ gb346)); have n3_ := Aside0.mk ((by rw [hg]; exact (below_size (by repeat (first | (with_reducible first | exact HB.out | apply below_alloc | apply pw_below_drewN | apply below_drew1) | exact HB.out))) : w.heap.size ≤ gb346)); clear HB; have HB := n0_; have BK346 := n1_; have GW346 := n2_; have GE346 := n3_; clear n0_ n1_ n2_ n3_; clear hb hbox hg; have hcz8_0 : w7.cell? ⟨gb346, 0, none⟩ = some (.int .i64 0) := (blk_cell BK346.out 0).trans rfl; have hcz8_1 : w7.cell? ⟨gb346, 1, none⟩ = some (.slice none 0 0) := (blk_cell BK346.out 1).trans rfl; have hcz8_2 : w7.cell? ⟨gb346, 2, none⟩ = some (.slice none 0 0) := (blk_cell BK346.out 2).trans rfl; have hfz8_0 := blk_frozen BK346.out 0; have hfz8_1 := blk_frozen BK346.out 1; have hfz8_2 := blk_frozen BK346.out 2)))
   refine bodyPost_ret (results_ct rfl _ _ gb346 25 #[.int .i64 0, .slice none 0 0, .slice none 0 0] (0, 0) _ rfl (by (with_reducible repeat (first | refine blk_drewN ?_ _ | refine blk_drew ?_ | refine blk_alloc ?_ _)); refine blk_put (cs := #[.int .i64 0, .slice none 0 0, .slice none 0 0]) ?_ 2 _ rfl; (with_reducible repeat (first | refine blk_drewN ?_ _ | refine blk_drew ?_ | refine blk_alloc ?_ _)); refine blk_put (cs := #[.int .i64 0, .slice none 0 0, .slice none 0 0]) ?_ 1 _ rfl; (with_reducible repeat (first | refine blk_drewN ?_ _ | refine blk_drew ?_ | refine blk_alloc ?_ _)); refine blk_put (cs := #[.int .i64 0, .slice none 0 0, .slice none 0 0]) ?_ 0 _ rfl; (with_reducible repeat (first | refine blk_drewN ?_ _ | refine blk_drew ?_ | refine blk_alloc ?_ _)); exact BK346.out) Try.underlying25 rfl (by kernel_rfl)) rfl ?_
   exact ⟨_, _, by first | rfl | (simp [errW_none, errW_some] <;> rfl) | (simp [*, errW_none, errW_some] <;> rfl), by first | exact Kd.R_nil _ _ _ _ _ | exact Kd.N_nil _ _ _ _ _ | exact Kd.V_nil _ _ _ _ _ | exact Kd.Q_nil _ _ _ _ _ | exact Kd.S_nil _ _ _ _ _, by first | exact Kd.R_nil _ _ _ _ _ | exact Kd.N_nil _ _ _ _ _ | exact Kd.V_nil _ _ _ _ _ | exact Kd.Q_nil _ _ _ _ _ | exact Kd.S_nil _ _ _ _ _, by repeat (first | (with_reducible first | exact HB.out | apply below_alloc | apply pw_below_drewN | apply below_drew1 | refine below_set ?_ GE346.out) | exact HB.out)⟩
  ·rw [if_neg c6] at H
   have c6b0 : decide ((wrap64 ((wrap64 (8 * (l0.length : Int))) - a1)) < 0) = false := decide_eq_false c6
   clear c6
   by_cases c9 : (wrap64 ((wrap64 (8 * (l0.length : Int))) - a1)) > 7
   ·rw [if_pos c9] at H
    have c9b0 : decide (7 < (wrap64 ((wrap64 (8 * (l0.length : Int))) - a1))) = true := decide_eq_true c9
    clear c9
    simp only [Option.some.injEq, Prod.mk.injEq] at H
    obtain ⟨rfl, rfl, rfl, rfl⟩ := H
    go_enter Try.func31, Try.ntmps31
    go_wp2_with (first | ((with_reducible refine gate_dst (N := 4) rfl ?_); (try (refine gate_guard (by rfl) ?_; dsimp only)); refine box_event ?hg (N := 4) ?hd (cs := #[.int .i64 0, .slice none 0 0, .slice none 0 0]) (t := 25) ?hr ?_; (case hd => rfl); (case hg => rfl); (case hr => first | (go_simp; done) | (go_simp; rfl)); intro gb346 hg w10 hbox hb; have n0_ := Aside0.mk (below_step (by repeat (first | (with_reducible first | exact HB.out | apply below_alloc | apply pw_below_drewN | apply below_drew1) | exact HB.out)) hb); have n1_ := Aside0.mk (hbox); have n2_ := Aside0.mk ((by rw [hg]; exact (below_size (by repeat (first | (with_reducible first | exact HB.out | apply below_alloc | apply pw_below_drewN | apply below_drew1) | exact HB.out))) : w.heap.size ≤ gb346)); have n3_ := Aside0.mk ((by rw [hg]; exact (below_size (by repeat (first | (with_reducible first | exact HB.out | apply below_alloc | apply pw_below_drewN | apply below_drew1) | exact HB.out))) : w.heap.size ≤ gb346)); clear HB; have HB := n0_; have BK346 := n1_; have GW346 := n2_; have GE346 := n3_; clear n0_ n1_ n2_ n3_; clear hb hbox hg; have hcz11_0 : w10.cell? ⟨gb346, 0, none⟩ = some (.int .i64 0) := (blk_cell BK346.out 0).trans rfl; have hcz11_1 : w10.cell? ⟨gb346, 1, none⟩ = some (.slice none 0 0) := (blk_cell BK346.out 1).trans rfl; have hcz11_2 : w10.cell? ⟨gb346, 2, none⟩ = some (.slice none 0 0) := (blk_cell BK346.out 2).trans rfl; have hfz11_0 := blk_frozen BK346.out 0; have hfz11_1 := blk_frozen BK346.out 1; have hfz11_2 := blk_frozen BK346.out 2))
    repeat (go_quiet (first | ((with_reducible refine gate_dst (N := 4) rfl ?_); (try (refine gate_guard (by rfl) ?_; dsimp only)); refine box_event ?hg (N := 4) ?hd (cs := #[.int .i64 0, .slice none 0 0, .slice none 0 0]) (t := 25) ?hr ?_; (case hd => rfl); (case hg => rfl); (case hr => first | (go_simp; done) | (go_simp; rfl)); intro gb346 hg w10 hbox hb; have n0_ := Aside0.mk (below_step (by repeat (first | (with_reducible first | exact HB.out | apply below_alloc | apply pw_below_drewN | apply below_drew1) | exact HB.out)) hb); have n1_ := Aside0.mk (hbox); have n2_ := Aside0.mk ((by rw [hg]; exact (below_size (by repeat (first | (with_reducible first | exact HB.out | apply below_alloc | apply pw_below_drewN | apply below_drew1) | exact HB.out))) : w.heap.size ≤ gb346)); have n3_ := Aside0.mk ((by rw [hg]; exact (below_size (by repeat (first | (with_reducible first | exact HB.out | apply below_alloc | apply pw_below_drewN | apply below_drew1) | exact HB.out))) : w.heap.size ≤ gb346)); clear HB; have HB := n0_; have BK346 := n1_; have GW346 := n2_; have GE346 := n3_; clear n0_ n1_ n2_ n3_; clear hb hbox hg; have hcz11_0 : w10.cell? ⟨gb346, 0, none⟩ = some (.int .i64 0) := (blk_cell BK346.out 0).trans rfl; have hcz11_1 : w10.cell? ⟨gb346, 1, none⟩ = some (.slice none 0 0) := (blk_cell BK346.out 1).trans rfl; have hcz11_2 : w10.cell? ⟨gb346, 2, none⟩ = some (.slice none 0 0) := (blk_cell BK346.out 2).trans rfl; have hfz11_0 := blk_frozen BK346.out 0; have hfz11_1 := blk_frozen BK346.out 1; have hfz11_2 := blk_frozen BK346.out 2)); try go_wp2_with (first | ((with_reducible refine gate_dst (N := 4) rfl ?_); (try (refine gate_guard (by rfl) ?_; dsimp only)); refine box_event ?hg (N := 4) ?hd (cs := #[.int .i64 0, .slice none 0 0, .slice none 0 0]) (t := 25) ?hr ?_; (case hd => rfl); (case hg => rfl); (case hr => first | (go_simp; done) | (go_simp; rfl)); intro gb346 hg w10 hbox hb; have n0_ := Aside0.mk (below_step (by repeat (first | (with_reducible first | exact HB.out | apply below_alloc | apply pw_below_drewN | apply below_drew1) | exact HB.out)) hb); have n1_ := Aside0.mk (hbox); have n2_ := Aside0.mk ((by rw [hg]; exact (below_size (by repeat (first | (with_reducible first | exact HB.out | apply below_alloc | apply pw_below_drewN | apply below_drew1) | exact HB.out))) : w.heap.size ≤ gb346)); have n3_ := Aside0.mk ((by rw [hg]; exact (below_size (by repeat (first | (with_reducible first | exact HB.out | apply below_alloc | apply pw_below_drewN | apply below_drew1) | exact HB.out))) : w.heap.size ≤ gb346)); clear HB; have HB := n0_; have BK346 := n1_; have GW346 := n2_; have GE346 := n3_; clear n0_ n1_ n2_ n3_; clear hb hbox hg; have hcz11_0 : w10.cell? ⟨gb346, 0, none⟩ = some (.int .i64 0) := (blk_cell BK346.out 0).trans rfl; have hcz11_1 : w10.cell? ⟨gb346, 1, none⟩ = some (.slice none 0 0) := (blk_cell BK346.out 1).trans rfl; have hcz11_2 : w10.cell? ⟨gb346, 2, none⟩ = some (.slice none 0 0) := (blk_cell BK346.out 2).trans rfl; have hfz11_0 := blk_frozen BK346.out 0; have hfz11_1 := blk_frozen BK346.out 1; have hfz11_2 := blk_frozen BK346.out 2)))
    refine bodyPost_ret (results_ct rfl _ _ gb346 25 #[.int .i64 0, .slice none 0 0, .slice none 0 0] (0, 0) _ rfl (by (with_reducible repeat (first | refine blk_drewN ?_ _ | refine blk_drew ?_ | refine blk_alloc ?_ _)); refine blk_put (cs := #[.int .i64 0, .slice none 0 0, .slice none 0 0]) ?_ 2 _ rfl; (with_reducible repeat (first | refine blk_drewN ?_ _ | refine blk_drew ?_ | refine blk_alloc ?_ _)); refine blk_put (cs := #[.int .i64 0, .slice none 0 0, .slice none 0 0]) ?_ 1 _ rfl; (with_reducible repeat (first | refine blk_drewN ?_ _ | refine blk_drew ?_ | refine blk_alloc ?_ _)); refine blk_put (cs := #[.int .i64 0, .slice none 0 0, .slice none 0 0]) ?_ 0 _ rfl; (with_reducible repeat (first | refine blk_drewN ?_ _ | refine blk_drew ?_ | refine blk_alloc ?_ _)); exact BK346.out) Try.underlying25 rfl (by kernel_rfl)) rfl ?_
    exact ⟨_, _, by first | rfl | (simp [errW_none, errW_some] <;> rfl) | (simp [*, errW_none, errW_some] <;> rfl), by first | exact Kd.R_nil _ _ _ _ _ | exact Kd.N_nil _ _ _ _ _ | exact Kd.V_nil _ _ _ _ _ | exact Kd.Q_nil _ _ _ _ _ | exact Kd.S_nil _ _ _ _ _, by first | exact Kd.R_nil _ _ _ _ _ | exact Kd.N_nil _ _ _ _ _ | exact Kd.V_nil _ _ _ _ _ | exact Kd.Q_nil _ _ _ _ _ | exact Kd.S_nil _ _ _ _ _, by repeat (first | (with_reducible first | exact HB.out | apply below_alloc | apply pw_below_drewN | apply below_drew1 | refine below_set ?_ GE346.out) | exact HB.out)⟩
   ·rw [if_neg c9] at H
    have c9b0 : decide (7 < (wrap64 ((wrap64 (8 * (l0.length : Int))) - a1))) = false := decide_eq_false c9
    clear c9
    by_cases c12 : (wrap64 ((wrap64 (8 * (l0.length : Int))) - a1)) > 0
    ·rw [if_pos c12] at H
     have c12b0 : decide (0 < (wrap64 ((wrap64 (8 * (l0.length : Int))) - a1))) = true := decide_eq_true c12
     clear c12
     obtain ⟨ji13, hji13⟩ : ∃ j_ : Int, (wrap64 ((l0.length : Int) - 1)) = j_ := ⟨_, rfl⟩
     replace H : (if 0 ≤ (ji13) then (if (ji13) < (l0.length : Int) then (if 0 ≤ (wrap64 ((wrap64 (8 * (l0.length : Int))) - a1)) then (if (Go.bits .and .u8 (rd l0 (ji13)) (((shl .u8 1 (wrap64 ((wrap64 (8 * (l0.length : Int))) - a1))) - 1) % 256)) = 0 then ((some (([(wrap64 ((wrap64 (8 * (l0.length : Int))) - a1)) % 256] : List Int) : List Int)).bind fun y348 => (if y348.length + l0.length < 140737488355328 then (some (3, (y348 ++ l0), ([] : List (S25)), 0)) else (none))) else (some (0, ([] : List Int), ([] : List (S25)), 1))) else (none)) else (none)) else (none)) = some (r1, r2, r3, r4) := by first | (rw [hji13] at H; exact H) | (simp only [hji13] at H ⊢; exact H)
     have hji13w : (IntKind.i64.wrap ((l0.length : Int) - 1)) = ji13 := (i64_w _).trans hji13
     by_cases c14 : 0 ≤ (ji13)
     ·rw [if_pos c14] at H
      have c14b0 : decide (0 ≤ (ji13)) = true := decide_eq_true c14
      clear c14
      by_cases c15 : (ji13) < (l0.length : Int)
      ·rw [if_pos c15] at H
       have c15b0 : decide ((ji13) < (l0.length : Int)) = true := decide_eq_true c15
       clear c15
       obtain ⟨ji16, hji16⟩ : ∃ j_ : Int, (wrap64 ((wrap64 (8 * (l0.length : Int))) - a1)) = j_ := ⟨_, rfl⟩
       replace H : (if 0 ≤ (ji16) then (if (Go.bits .and .u8 (rd l0 (ji13)) (((shl .u8 1 (ji16)) - 1) % 256)) = 0 then ((some (([(ji16) % 256] : List Int) : List Int)).bind fun y348 => (if y348.length + l0.length < 140737488355328 then (some (3, (y348 ++ l0), ([] : List (S25)), 0)) else (none))) else (some (0, ([] : List Int), ([] : List (S25)), 1))) else (none)) = some (r1, r2, r3, r4) := by first | (rw [hji16] at H; exact H) | (simp only [hji16] at H ⊢; exact H)
       (try rw [hji16] at c6b0)
       (try rw [hji16] at c9b0)
       (try rw [hji16] at c12b0)
       have hji16w : (IntKind.i64.wrap ((wrap64 (8 * (l0.length : Int))) - a1)) = ji16 := (i64_w _).trans hji16
       by_cases c17 : 0 ≤ (ji16)
       ·rw [if_pos c17] at H
        have c17b0 := eq_true c17
        have c17b1 : decide (0 ≤ (ji16)) = true := decide_eq_true c17
        clear c17
        obtain ⟨ji18, hji18⟩ : ∃ j_ : Int, (shl .u8 1 (ji16)) = j_ := ⟨_, rfl⟩
        replace H : (if (Go.bits .and .u8 (rd l0 (ji13)) (((ji18) - 1) % 256)) = 0 then ((some (([(ji16) % 256] : List Int) : List Int)).bind fun y348 => (if y348.length + l0.length < 140737488355328 then (some (3, (y348 ++ l0), ([] : List (S25)), 0)) else (none))) else (some (0, ([] : List Int), ([] : List (S25)), 1))) = some (r1, r2, r3, r4) := by first | (rw [hji18] at H; exact H) | (simp only [hji18] at H ⊢; exact H)
        have hji18_ : (IntKind.u8.wrap (1 * 2 ^ min (ji16).toNat 8)) = ji18 := hji18
        have hji18z : (ji16) ≤ 8 → (IntKind.u8.wrap (1 * 2 ^ (ji16).toNat)) = ji18 := shl_small hji18
        have hji18u : (IntKind.u8.wrap (2 ^ min (ji16).toNat 8)) = ji18 := by have h_ := hji18_; rw [Int.one_mul] at h_; exact h_
        have hji18v : (ji16) ≤ 8 → (IntKind.u8.wrap (2 ^ (ji16).toNat)) = ji18 := fun hle_ => by have h_ := hji18z hle_; rw [Int.one_mul] at h_; exact h_
        by_cases c19 : (Go.bits .and .u8 (rd l0 (ji13)) (((ji18) - 1) % 256)) = 0
        ·rw [if_pos c19] at H
         have c19b0 : ((Go.bits .and .u8 (rd l0 (ji13)) (((ji18) - 1) % 256)) == 0) = true := beq_iff_eq.mpr c19
         have c19b1 : ((Go.bits .and .u8 (rd l0 (ji13)) (((ji18) - 1) % 256)) != 0) = false := bne_eq_false_iff_eq.mpr c19
         clear c19
         obtain ⟨y348, hy348⟩ : ∃ y_ : List Int, y_ = (([(ji16) % 256] : List Int)) := ⟨_, rfl⟩
         replace H : (if y348.length + l0.length < 140737488355328 then (some (3, (y348 ++ l0), ([] : List (S25)), 0)) else (none)) = some (r1, r2, r3, r4) := by first | (rw [hy348]; with_reducible exact H) | (have H2_ := (Option.bind_some _ _).symm.trans H; rw [hy348]; with_reducible exact H2_) | (have H2_ := (Option.bind_some _ _).symm.trans H; with_reducible exact H2_) | with_reducible exact H | (rw [hy348]; exact H) | exact H
         have Ny348 := Aside0.mk hy348
         clear hy348
         by_cases c20 : y348.length + l0.length < 140737488355328
         ·rw [if_pos c20] at H
          have LMc20 := Aside0.mk c20
          clear c20
          obtain ⟨y351, hy351⟩ : ∃ y_ : List Int, y_ = (y348 ++ l0) := ⟨_, rfl⟩
          replace H : (some (3, y351, ([] : List (S25)), 0)) = some (r1, r2, r3, r4) := by first | (rw [hy351]; with_reducible exact H) | (have H2_ := (Option.bind_some _ _).symm.trans H; rw [hy351]; with_reducible exact H2_) | (have H2_ := (Option.bind_some _ _).symm.trans H; with_reducible exact H2_) | with_reducible exact H | (rw [hy351]; exact H) | exact H
          have Ny351 := Aside0.mk hy351
          clear hy351
          simp only [Option.some.injEq, Prod.mk.injEq] at H
          obtain ⟨rfl, rfl, rfl, rfl⟩ := H
          go_enter Try.func31, Try.ntmps31
          go_wp2_with (first | ((with_reducible refine gate_dst (N := 4) rfl ?_); (try (refine gate_guard (by rfl) ?_; dsimp only)); refine box_event ?hg (N := 4) ?hd (cs := #[.int .i64 0, .slice none 0 0, .slice none 0 0]) (t := 25) ?hr ?_; (case hd => rfl); (case hg => rfl); (case hr => first | (go_simp; done) | (go_simp; rfl)); intro gb346 hg w21 hbox hb; have n0_ := Aside0.mk (below_step (by repeat (first | (with_reducible first | exact HB.out | apply below_alloc | apply pw_below_drewN | apply below_drew1) | exact HB.out)) hb); have n1_ := Aside0.mk (hbox); have n2_ := Aside0.mk ((by rw [hg]; exact (below_size (by repeat (first | (with_reducible first | exact HB.out | apply below_alloc | apply pw_below_drewN | apply below_drew1) | exact HB.out))) : w.heap.size ≤ gb346)); have n3_ := Aside0.mk ((by rw [hg]; exact (below_size (by repeat (first | (with_reducible first | exact HB.out | apply below_alloc | apply pw_below_drewN | apply below_drew1) | exact HB.out))) : w.heap.size ≤ gb346)); clear HB; have HB := n0_; have BK346 := n1_; have GW346 := n2_; have GE346 := n3_; clear n0_ n1_ n2_ n3_; clear hb hbox hg; have p347 : 0 ≤ ((ji13) : Int) := of_decide_eq_true (by first | (with_reducible assumption) | assumption); have q347 : (ji13) < (l0.length : Int) := of_decide_eq_true (by first | (with_reducible assumption) | assumption); obtain ⟨ad347, e347, hx347_0⟩ := Kd.at_int HR0.out (ji13) p347 q347; cases e347; replace hx347_0 := (HB.out.cell (World.block_lt_of_cell? w _ hx347_0)).trans hx347_0; replace p347 := eq_true p347; replace q347 := eq_true q347) | ((with_reducible refine gate_dst (N := 42) rfl ?_); (try (refine gate_guard (by rfl) ?_; dsimp only)); refine Kd.R_lit (Kd.int .u8) _ 5 ?hg (N := 42) ?hd (xs := ([(ji16) % 256] : List Int)) (inner := [.int .u8 ((ji16) % 256)]) (ok := fun _ => True) (okp := fun _ => True) ?hr ?hp (fun _ hk => hk) trivial (Below.refl _ _) (Nat.le_refl _) (by simp) ?_; (case hd => rfl); (case hg => rfl); (case hr => first | (go_simp; done) | (go_simp; rfl)); (case hp => exact (Reps.one (show Kd.M (Kd.int .u8) _ _ _ ((ji16) % 256) [.int .u8 ((ji16) % 256)] from rfl) (Reps.none _ _))); intro v349 w22 ho23 hb hg_ hnew_; clear hg_ hnew_; (first | rw [← Ny348.out] at ho23 | (simp only [Int.reduceToNat] at ho23; rw [← Ny348.out] at ho23)); have n0_ := Aside0.mk (Kd.R_lower ho23 (below_size (by repeat (first | (with_reducible first | exact HB.out | apply below_alloc | apply pw_below_drewN | apply below_drew1 | refine below_set ?_ GE346.out) | exact HB.out)))); have n1_ := Aside0.mk (blk_below (g := gb346) (o := .cells #[.int .i64 0, .slice none 0 0, .slice none 0 0] 25 (0, 0)) (by (with_reducible repeat (first | refine blk_drewN ?_ _ | refine blk_drew ?_ | refine blk_alloc ?_ _)); exact BK346.out) hb); have n2_ := Aside0.mk (below_step (by repeat (first | (with_reducible first | exact HB.out | apply below_alloc | apply pw_below_drewN | apply below_drew1 | refine below_set ?_ GE346.out) | exact HB.out)) hb); clear BK346; clear HB; have HO350 := n0_; have BK346 := n1_; have HB := n2_; clear n0_ n1_ n2_; clear hb ho23) | ((with_reducible refine gate_builtin (b := .append) (xs := #[.tmp 42, .tmp 43]) rfl ?_); (try (refine gate_guard (by rfl) ?_; dsimp only)); at_builtin; refine Kd.R_append_rows (Kd.int .u8) (w0 := w) w.heap.size rfl (.tmp 42) (.tmp 43) 22 5 (.int .u8 0) 1 rfl Try.underlying22 info5 rfl (by decide) (by omega) v349 y348 l0 _ _ _ (fun _ => True) (fun _ => False) rfl rfl ?aO ?aR (fun _ _ h => h) (fun _ h => h.elim) ?aF ?aB ?aS ?aL ?_; (case aR => repeat (first | exact (Kd.C_below HR0.out HB.out) | (with_reducible refine Kd.C_alloc ?_ _) | (with_reducible refine Kd.C_drewN ?_ _) | (with_reducible refine Kd.C_drew ?_))); (case aB => exact (by repeat (first | (with_reducible first | exact HB.out | apply below_alloc | apply pw_below_drewN | apply below_drew1 | refine below_set ?_ GE346.out) | exact HB.out))); (case aF => exact (fun _ _ => trivial)); (case aO => exact (by (with_reducible repeat (first | apply Kd.R_alloc | apply Kd.R_drewN | apply Kd.R_drew)); exact HO350.out)); (case aS => exact (below_size (by repeat (first | (with_reducible first | exact HB.out | apply below_alloc | apply pw_below_drewN | apply below_drew1 | refine below_set ?_ GE346.out) | exact HB.out)))); (case aL => have := LMc20.out; omega); intro v352 w24 ho hb hg hat; rw [← Ny351.out] at ho; have n0_ := Aside0.mk (blk_grown (g := gb346) (o := .cells #[.int .i64 0, .slice none 0 0, .slice none 0 0] 25 (0, 0)) (by (with_reducible repeat (first | refine blk_drewN ?_ _ | refine blk_drew ?_ | refine blk_alloc ?_ _)); exact BK346.out) hg (Kd.R_ne HO350.out BK346.out (by decide))); have n1_ := Aside0.mk (hb); have n2_ := Aside0.mk (ho); clear BK346; clear HB; clear HO350; have BK346 := n0_; have HB := n1_; have HO353 := n2_; clear n0_ n1_ n2_; clear ho hb hg hat; obtain ⟨Ao25, co25, eo25⟩ := Kd.R_slice HO353.out; subst eo25; have hcz26_0 : w24.cell? ⟨gb346, 0, none⟩ = some (.int .i64 0) := (blk_cell BK346.out 0).trans rfl; have hcz26_1 : w24.cell? ⟨gb346, 1, none⟩ = some (.slice none 0 0) := (blk_cell BK346.out 1).trans rfl; have hcz26_2 : w24.cell? ⟨gb346, 2, none⟩ = some (.slice none 0 0) := (blk_cell BK346.out 2).trans rfl; have hfz26_0 := blk_frozen BK346.out 0; have hfz26_1 := blk_frozen BK346.out 1; have hfz26_2 := blk_frozen BK346.out 2))
          repeat (go_quiet (first | ((with_reducible refine gate_dst (N := 4) rfl ?_); (try (refine gate_guard (by rfl) ?_; dsimp only)); refine box_event ?hg (N := 4) ?hd (cs := #[.int .i64 0, .slice none 0 0, .slice none 0 0]) (t := 25) ?hr ?_; (case hd => rfl); (case hg => rfl); (case hr => first | (go_simp; done) | (go_simp; rfl)); intro gb346 hg w21 hbox hb; have n0_ := Aside0.mk (below_step (by repeat (first | (with_reducible first | exact HB.out | apply below_alloc | apply pw_below_drewN | apply below_drew1) | exact HB.out)) hb); have n1_ := Aside0.mk (hbox); have n2_ := Aside0.mk ((by rw [hg]; exact (below_size (by repeat (first | (with_reducible first | exact HB.out | apply below_alloc | apply pw_below_drewN | apply below_drew1) | exact HB.out))) : w.heap.size ≤ gb346)); have n3_ := Aside0.mk ((by rw [hg]; exact (below_size (by repeat (first | (with_reducible first | exact HB.out | apply below_alloc | apply pw_below_drewN | apply below_drew1) | exact HB.out))) : w.heap.size ≤ gb346)); clear HB; have HB := n0_; have BK346 := n1_; have GW346 := n2_; have GE346 := n3_; clear n0_ n1_ n2_ n3_; clear hb hbox hg; have p347 : 0 ≤ ((ji13) : Int) := of_decide_eq_true (by first | (with_reducible assumption) | assumption); have q347 : (ji13) < (l0.length : Int) := of_decide_eq_true (by first | (with_reducible assumption) | assumption); obtain ⟨ad347, e347, hx347_0⟩ := Kd.at_int HR0.out (ji13) p347 q347; cases e347; replace hx347_0 := (HB.out.cell (World.block_lt_of_cell? w _ hx347_0)).trans hx347_0; replace p347 := eq_true p347; replace q347 := eq_true q347) | ((with_reducible refine gate_dst (N := 42) rfl ?_); (try (refine gate_guard (by rfl) ?_; dsimp only)); refine Kd.R_lit (Kd.int .u8) _ 5 ?hg (N := 42) ?hd (xs := ([(ji16) % 256] : List Int)) (inner := [.int .u8 ((ji16) % 256)]) (ok := fun _ => True) (okp := fun _ => True) ?hr ?hp (fun _ hk => hk) trivial (Below.refl _ _) (Nat.le_refl _) (by simp) ?_; (case hd => rfl); (case hg => rfl); (case hr => first | (go_simp; done) | (go_simp; rfl)); (case hp => exact (Reps.one (show Kd.M (Kd.int .u8) _ _ _ ((ji16) % 256) [.int .u8 ((ji16) % 256)] from rfl) (Reps.none _ _))); intro v349 w22 ho23 hb hg_ hnew_; clear hg_ hnew_; (first | rw [← Ny348.out] at ho23 | (simp only [Int.reduceToNat] at ho23; rw [← Ny348.out] at ho23)); have n0_ := Aside0.mk (Kd.R_lower ho23 (below_size (by repeat (first | (with_reducible first | exact HB.out | apply below_alloc | apply pw_below_drewN | apply below_drew1 | refine below_set ?_ GE346.out) | exact HB.out)))); have n1_ := Aside0.mk (blk_below (g := gb346) (o := .cells #[.int .i64 0, .slice none 0 0, .slice none 0 0] 25 (0, 0)) (by (with_reducible repeat (first | refine blk_drewN ?_ _ | refine blk_drew ?_ | refine blk_alloc ?_ _)); exact BK346.out) hb); have n2_ := Aside0.mk (below_step (by repeat (first | (with_reducible first | exact HB.out | apply below_alloc | apply pw_below_drewN | apply below_drew1 | refine below_set ?_ GE346.out) | exact HB.out)) hb); clear BK346; clear HB; have HO350 := n0_; have BK346 := n1_; have HB := n2_; clear n0_ n1_ n2_; clear hb ho23) | ((with_reducible refine gate_builtin (b := .append) (xs := #[.tmp 42, .tmp 43]) rfl ?_); (try (refine gate_guard (by rfl) ?_; dsimp only)); at_builtin; refine Kd.R_append_rows (Kd.int .u8) (w0 := w) w.heap.size rfl (.tmp 42) (.tmp 43) 22 5 (.int .u8 0) 1 rfl Try.underlying22 info5 rfl (by decide) (by omega) v349 y348 l0 _ _ _ (fun _ => True) (fun _ => False) rfl rfl ?aO ?aR (fun _ _ h => h) (fun _ h => h.elim) ?aF ?aB ?aS ?aL ?_; (case aR => repeat (first | exact (Kd.C_below HR0.out HB.out) | (with_reducible refine Kd.C_alloc ?_ _) | (with_reducible refine Kd.C_drewN ?_ _) | (with_reducible refine Kd.C_drew ?_))); (case aB => exact (by repeat (first | (with_reducible first | exact HB.out | apply below_alloc | apply pw_below_drewN | apply below_drew1 | refine below_set ?_ GE346.out) | exact HB.out))); (case aF => exact (fun _ _ => trivial)); (case aO => exact (by (with_reducible repeat (first | apply Kd.R_alloc | apply Kd.R_drewN | apply Kd.R_drew)); exact HO350.out)); (case aS => exact (below_size (by repeat (first | (with_reducible first | exact HB.out | apply below_alloc | apply pw_below_drewN | apply below_drew1 | refine below_set ?_ GE346.out) | exact HB.out)))); (case aL => have := LMc20.out; omega); intro v352 w24 ho hb hg hat; rw [← Ny351.out] at ho; have n0_ := Aside0.mk (blk_grown (g := gb346) (o := .cells #[.int .i64 0, .slice none 0 0, .slice none 0 0] 25 (0, 0)) (by (with_reducible repeat (first | refine blk_drewN ?_ _ | refine blk_drew ?_ | refine blk_alloc ?_ _)); exact BK346.out) hg (Kd.R_ne HO350.out BK346.out (by decide))); have n1_ := Aside0.mk (hb); have n2_ := Aside0.mk (ho); clear BK346; clear HB; clear HO350; have BK346 := n0_; have HB := n1_; have HO353 := n2_; clear n0_ n1_ n2_; clear ho hb hg hat; obtain ⟨Ao25, co25, eo25⟩ := Kd.R_slice HO353.out; subst eo25; have hcz26_0 : w24.cell? ⟨gb346, 0, none⟩ = some (.int .i64 0) := (blk_cell BK346.out 0).trans rfl; have hcz26_1 : w24.cell? ⟨gb346, 1, none⟩ = some (.slice none 0 0) := (blk_cell BK346.out 1).trans rfl; have hcz26_2 : w24.cell? ⟨gb346, 2, none⟩ = some (.slice none 0 0) := (blk_cell BK346.out 2).trans rfl; have hfz26_0 := blk_frozen BK346.out 0; have hfz26_1 := blk_frozen BK346.out 1; have hfz26_2 := blk_frozen BK346.out 2)); try go_wp2_with (first | ((with_reducible refine gate_dst (N := 4) rfl ?_); (try (refine gate_guard (by rfl) ?_; dsimp only)); refine box_event ?hg (N := 4) ?hd (cs := #[.int .i64 0, .slice none 0 0, .slice none 0 0]) (t := 25) ?hr ?_; (case hd => rfl); (case hg => rfl); (case hr => first | (go_simp; done) | (go_simp; rfl)); intro gb346 hg w21 hbox hb; have n0_ := Aside0.mk (below_step (by repeat (first | (with_reducible first | exact HB.out | apply below_alloc | apply pw_below_drewN | apply below_drew1) | exact HB.out)) hb); have n1_ := Aside0.mk (hbox); have n2_ := Aside0.mk ((by rw [hg]; exact (below_size (by repeat (first | (with_reducible first | exact HB.out | apply below_alloc | apply pw_below_drewN | apply below_drew1) | exact HB.out))) : w.heap.size ≤ gb346)); have n3_ := Aside0.mk ((by rw [hg]; exact (below_size (by repeat (first | (with_reducible first | exact HB.out | apply below_alloc | apply pw_below_drewN | apply below_drew1) | exact HB.out))) : w.heap.size ≤ gb346)); clear HB; have HB := n0_; have BK346 := n1_; have GW346 := n2_; have GE346 := n3_; clear n0_ n1_ n2_ n3_; clear hb hbox hg; have p347 : 0 ≤ ((ji13) : Int) := of_decide_eq_true (by first | (with_reducible assumption) | assumption); have q347 : (ji13) < (l0.length : Int) := of_decide_eq_true (by first | (with_reducible assumption) | assumption); obtain ⟨ad347, e347, hx347_0⟩ := Kd.at_int HR0.out (ji13) p347 q347; cases e347; replace hx347_0 := (HB.out.cell (World.block_lt_of_cell? w _ hx347_0)).trans hx347_0; replace p347 := eq_true p347; replace q347 := eq_true q347) | ((with_reducible refine gate_dst (N := 42) rfl ?_); (try (refine gate_guard (by rfl) ?_; dsimp only)); refine Kd.R_lit (Kd.int .u8) _ 5 ?hg (N := 42) ?hd (xs := ([(ji16) % 256] : List Int)) (inner := [.int .u8 ((ji16) % 256)]) (ok := fun _ => True) (okp := fun _ => True) ?hr ?hp (fun _ hk => hk) trivial (Below.refl _ _) (Nat.le_refl _) (by simp) ?_; (case hd => rfl); (case hg => rfl); (case hr => first | (go_simp; done) | (go_simp; rfl)); (case hp => exact (Reps.one (show Kd.M (Kd.int .u8) _ _ _ ((ji16) % 256) [.int .u8 ((ji16) % 256)] from rfl) (Reps.none _ _))); intro v349 w22 ho23 hb hg_ hnew_; clear hg_ hnew_; (first | rw [← Ny348.out] at ho23 | (simp only [Int.reduceToNat] at ho23; rw [← Ny348.out] at ho23)); have n0_ := Aside0.mk (Kd.R_lower ho23 (below_size (by repeat (first | (with_reducible first | exact HB.out | apply below_alloc | apply pw_below_drewN | apply below_drew1 | refine below_set ?_ GE346.out) | exact HB.out)))); have n1_ := Aside0.mk (blk_below (g := gb346) (o := .cells #[.int .i64 0, .slice none 0 0, .slice none 0 0] 25 (0, 0)) (by (with_reducible repeat (first | refine blk_drewN ?_ _ | refine blk_drew ?_ | refine blk_alloc ?_ _)); exact BK346.out) hb); have n2_ := Aside0.mk (below_step (by repeat (first | (with_reducible first | exact HB.out | apply below_alloc | apply pw_below_drewN | apply below_drew1 | refine below_set ?_ GE346.out) | exact HB.out)) hb); clear BK346; clear HB; have HO350 := n0_; have BK346 := n1_; have HB := n2_; clear n0_ n1_ n2_; clear hb ho23) | ((with_reducible refine gate_builtin (b := .append) (xs := #[.tmp 42, .tmp 43]) rfl ?_); (try (refine gate_guard (by rfl) ?_; dsimp only)); at_builtin; refine Kd.R_append_rows (Kd.int .u8) (w0 := w) w.heap.size rfl (.tmp 42) (.tmp 43) 22 5 (.int .u8 0) 1 rfl Try.underlying22 info5 rfl (by decide) (by omega) v349 y348 l0 _ _ _ (fun _ => True) (fun _ => False) rfl rfl ?aO ?aR (fun _ _ h => h) (fun _ h => h.elim) ?aF ?aB ?aS ?aL ?_; (case aR => repeat (first | exact (Kd.C_below HR0.out HB.out) | (with_reducible refine Kd.C_alloc ?_ _) | (with_reducible refine Kd.C_drewN ?_ _) | (with_reducible refine Kd.C_drew ?_))); (case aB => exact (by repeat (first | (with_reducible first | exact HB.out | apply below_alloc | apply pw_below_drewN | apply below_drew1 | refine below_set ?_ GE346.out) | exact HB.out))); (case aF => exact (fun _ _ => trivial)); (case aO => exact (by (with_reducible repeat (first | apply Kd.R_alloc | apply Kd.R_drewN | apply Kd.R_drew)); exact HO350.out)); (case aS => exact (below_size (by repeat (first | (with_reducible first | exact HB.out | apply below_alloc | apply pw_below_drewN | apply below_drew1 | refine below_set ?_ GE346.out) | exact HB.out)))); (case aL => have := LMc20.out; omega); intro v352 w24 ho hb hg hat; rw [← Ny351.out] at ho; have n0_ := Aside0.mk (blk_grown (g := gb346) (o := .cells #[.int .i64 0, .slice none 0 0, .slice none 0 0] 25 (0, 0)) (by (with_reducible repeat (first | refine blk_drewN ?_ _ | refine blk_drew ?_ | refine blk_alloc ?_ _)); exact BK346.out) hg (Kd.R_ne HO350.out BK346.out (by decide))); have n1_ := Aside0.mk (hb); have n2_ := Aside0.mk (ho); clear BK346; clear HB; clear HO350; have BK346 := n0_; have HB := n1_; have HO353 := n2_; clear n0_ n1_ n2_; clear ho hb hg hat; obtain ⟨Ao25, co25, eo25⟩ := Kd.R_slice HO353.out; subst eo25; have hcz26_0 : w24.cell? ⟨gb346, 0, none⟩ = some (.int .i64 0) := (blk_cell BK346.out 0).trans rfl; have hcz26_1 : w24.cell? ⟨gb346, 1, none⟩ = some (.slice none 0 0) := (blk_cell BK346.out 1).trans rfl; have hcz26_2 : w24.cell? ⟨gb346, 2, none⟩ = some (.slice none 0 0) := (blk_cell BK346.out 2).trans rfl; have hfz26_0 := blk_frozen BK346.out 0; have hfz26_1 := blk_frozen BK346.out 1; have hfz26_2 := blk_frozen BK346.out 2)))
          refine bodyPost_ret (results_ct rfl _ _ gb346 25 #[.int .i64 3, .slice Ao25 y351.length co25, .slice none 0 0] (0, 0) _ rfl (by (with_reducible repeat (first | refine blk_drewN ?_ _ | refine blk_drew ?_ | refine blk_alloc ?_ _)); refine blk_put (cs := #[.int .i64 3, .slice Ao25 y351.length co25, .slice none 0 0]) ?_ 2 _ rfl; (with_reducible repeat (first | refine blk_drewN ?_ _ | refine blk_drew ?_ | refine blk_alloc ?_ _)); refine blk_put (cs := #[.int .i64 3, .slice none 0 0, .slice none 0 0]) ?_ 1 _ rfl; (with_reducible repeat (first | refine blk_drewN ?_ _ | refine blk_drew ?_ | refine blk_alloc ?_ _)); refine blk_put (cs := #[.int .i64 0, .slice none 0 0, .slice none 0 0]) ?_ 0 _ rfl; (with_reducible repeat (first | refine blk_drewN ?_ _ | refine blk_drew ?_ | refine blk_alloc ?_ _)); exact BK346.out) Try.underlying25 rfl (by kernel_rfl)) rfl ?_
          exact ⟨_, _, by first | rfl | (simp [errW_none, errW_some] <;> rfl) | (simp only [← hji13, ← hji16, ← hji18]; first | rfl | (simp [errW_none, errW_some] <;> rfl)) | (simp [*, errW_none, errW_some] <;> rfl), by (with_reducible repeat (first | apply Kd.R_alloc | apply Kd.R_drewN | apply Kd.R_drew)); exact Kd.R_mono (Kd.R_far (p := ⟨gb346, 2, none⟩) (Kd.R_far (p := ⟨gb346, 1, none⟩) (Kd.R_far (p := ⟨gb346, 0, none⟩) (Kd.R_types HO353.out BK346.out (by decide)) (fun _ hk => hk.2) (.int .i64 3)) (fun _ hk => hk.2) (.slice Ao25 y351.length co25)) (fun _ hk => hk.2) (.slice none 0 0)) (fun _ hk => trivial), by first | exact Kd.R_nil _ _ _ _ _ | exact Kd.N_nil _ _ _ _ _ | exact Kd.V_nil _ _ _ _ _ | exact Kd.Q_nil _ _ _ _ _ | exact Kd.S_nil _ _ _ _ _, by repeat (first | (with_reducible first | exact HB.out | apply below_alloc | apply pw_below_drewN | apply below_drew1 | refine below_set ?_ GE346.out) | exact HB.out)⟩
         ·rw [if_neg c20] at H
          exact absurd H (by simp)
        ·rw [if_neg c19] at H
         have c19b0 : ((Go.bits .and .u8 (rd l0 (ji13)) (((ji18) - 1) % 256)) == 0) = false := beq_eq_false_iff_ne.mpr c19
         have c19b1 : ((Go.bits .and .u8 (rd l0 (ji13)) (((ji18) - 1) % 256)) != 0) = true := bne_iff_ne.mpr c19
         simp only [Option.some.injEq, Prod.mk.injEq] at H
         obtain ⟨rfl, rfl, rfl, rfl⟩ := H
         go_enter Try.func31, Try.ntmps31
         go_wp2_with (first | ((with_reducible refine gate_dst (N := 4) rfl ?_); (try (refine gate_guard (by rfl) ?_; dsimp only)); refine box_event ?hg (N := 4) ?hd (cs := #[.int .i64 0, .slice none 0 0, .slice none 0 0]) (t := 25) ?hr ?_; (case hd => rfl); (case hg => rfl); (case hr => first | (go_simp; done) | (go_simp; rfl)); intro gb346 hg w27 hbox hb; have n0_ := Aside0.mk (below_step (by repeat (first | (with_reducible first | exact HB.out | apply below_alloc | apply pw_below_drewN | apply below_drew1) | exact HB.out)) hb); have n1_ := Aside0.mk (hbox); have n2_ := Aside0.mk ((by rw [hg]; exact (below_size (by repeat (first | (with_reducible first | exact HB.out | apply below_alloc | apply pw_below_drewN | apply below_drew1) | exact HB.out))) : w.heap.size ≤ gb346)); have n3_ := Aside0.mk ((by rw [hg]; exact (below_size (by repeat (first | (with_reducible first | exact HB.out | apply below_alloc | apply pw_below_drewN | apply below_drew1) | exact HB.out))) : w.heap.size ≤ gb346)); clear HB; have HB := n0_; have BK346 := n1_; have GW346 := n2_; have GE346 := n3_; clear n0_ n1_ n2_ n3_; clear hb hbox hg; have p347 : 0 ≤ ((ji13) : Int) := of_decide_eq_true (by first | (with_reducible assumption) | assumption); have q347 : (ji13) < (l0.length : Int) := of_decide_eq_true (by first | (with_reducible assumption) | assumption); obtain ⟨ad347, e347, hx347_0⟩ := Kd.at_int HR0.out (ji13) p347 q347; cases e347; replace hx347_0 := (HB.out.cell (World.block_lt_of_cell? w _ hx347_0)).trans hx347_0; replace p347 := eq_true p347; replace q347 := eq_true q347; have hcz28_0 : w27.cell? ⟨gb346, 0, none⟩ = some (.int .i64 0) := (blk_cell BK346.out 0).trans rfl; have hcz28_1 : w27.cell? ⟨gb346, 1, none⟩ = some (.slice none 0 0) := (blk_cell BK346.out 1).trans rfl; have hcz28_2 : w27.cell? ⟨gb346, 2, none⟩ = some (.slice none 0 0) := (blk_cell BK346.out 2).trans rfl; have hfz28_0 := blk_frozen BK346.out 0; have hfz28_1 := blk_frozen BK346.out 1; have hfz28_2 := blk_frozen BK346.out 2))
         repeat (go_quiet (first | ((with_reducible refine gate_dst (N := 4) rfl ?_); (try (refine gate_guard (by rfl) ?_; dsimp only)); refine box_event ?hg (N := 4) ?hd (cs := #[.int .i64 0, .slice none 0 0, .slice none 0 0]) (t := 25) ?hr ?_; (case hd => rfl); (case hg => rfl); (case hr => first | (go_simp; done) | (go_simp; rfl)); intro gb346 hg w27 hbox hb; have n0_ := Aside0.mk (below_step (by repeat (first | (with_reducible first | exact HB.out | apply below_alloc | apply pw_below_drewN | apply below_drew1) | exact HB.out)) hb); have n1_ := Aside0.mk (hbox); have n2_ := Aside0.mk ((by rw [hg]; exact (below_size (by repeat (first | (with_reducible first | exact HB.out | apply below_alloc | apply pw_below_drewN | apply below_drew1) | exact HB.out))) : w.heap.size ≤ gb346)); have n3_ := Aside0.mk ((by rw [hg]; exact (below_size (by repeat (first | (with_reducible first | exact HB.out | apply below_alloc | apply pw_below_drewN | apply below_drew1) | exact HB.out))) : w.heap.size ≤ gb346)); clear HB; have HB := n0_; have BK346 := n1_; have GW346 := n2_; have GE346 := n3_; clear n0_ n1_ n2_ n3_; clear hb hbox hg; have p347 : 0 ≤ ((ji13) : Int) := of_decide_eq_true (by first | (with_reducible assumption) | assumption); have q347 : (ji13) < (l0.length : Int) := of_decide_eq_true (by first | (with_reducible assumption) | assumption); obtain ⟨ad347, e347, hx347_0⟩ := Kd.at_int HR0.out (ji13) p347 q347; cases e347; replace hx347_0 := (HB.out.cell (World.block_lt_of_cell? w _ hx347_0)).trans hx347_0; replace p347 := eq_true p347; replace q347 := eq_true q347; have hcz28_0 : w27.cell? ⟨gb346, 0, none⟩ = some (.int .i64 0) := (blk_cell BK346.out 0).trans rfl; have hcz28_1 : w27.cell? ⟨gb346, 1, none⟩ = some (.slice none 0 0) := (blk_cell BK346.out 1).trans rfl; have hcz28_2 : w27.cell? ⟨gb346, 2, none⟩ = some (.slice none 0 0) := (blk_cell BK346.out 2).trans rfl; have hfz28_0 := blk_frozen BK346.out 0; have hfz28_1 := blk_frozen BK346.out 1; have hfz28_2 := blk_frozen BK346.out 2)); try go_wp2_with (first | ((with_reducible refine gate_dst (N := 4) rfl ?_); (try (refine gate_guard (by rfl) ?_; dsimp only)); refine box_event ?hg (N := 4) ?hd (cs := #[.int .i64 0, .slice none 0 0, .slice none 0 0]) (t := 25) ?hr ?_; (case hd => rfl); (case hg => rfl); (case hr => first | (go_simp; done) | (go_simp; rfl)); intro gb346 hg w27 hbox hb; have n0_ := Aside0.mk (below_step (by repeat (first | (with_reducible first | exact HB.out | apply below_alloc | apply pw_below_drewN | apply below_drew1) | exact HB.out)) hb); have n1_ := Aside0.mk (hbox); have n2_ := Aside0.mk ((by rw [hg]; exact (below_size (by repeat (first | (with_reducible first | exact HB.out | apply below_alloc | apply pw_below_drewN | apply below_drew1) | exact HB.out))) : w.heap.size ≤ gb346)); have n3_ := Aside0.mk ((by rw [hg]; exact (below_size (by repeat (first | (with_reducible first | exact HB.out | apply below_alloc | apply pw_below_drewN | apply below_drew1) | exact HB.out))) : w.heap.size ≤ gb346)); clear HB; have HB := n0_; have BK346 := n1_; have GW346 := n2_; have GE346 := n3_; clear n0_ n1_ n2_ n3_; clear hb hbox hg; have p347 : 0 ≤ ((ji13) : Int) := of_decide_eq_true (by first | (with_reducible assumption) | assumption); have q347 : (ji13) < (l0.length : Int) := of_decide_eq_true (by first | (with_reducible assumption) | assumption); obtain ⟨ad347, e347, hx347_0⟩ := Kd.at_int HR0.out (ji13) p347 q347; cases e347; replace hx347_0 := (HB.out.cell (World.block_lt_of_cell? w _ hx347_0)).trans hx347_0; replace p347 := eq_true p347; replace q347 := eq_true q347; have hcz28_0 : w27.cell? ⟨gb346, 0, none⟩ = some (.int .i64 0) := (blk_cell BK346.out 0).trans rfl; have hcz28_1 : w27.cell? ⟨gb346, 1, none⟩ = some (.slice none 0 0) := (blk_cell BK346.out 1).trans rfl; have hcz28_2 : w27.cell? ⟨gb346, 2, none⟩ = some (.slice none 0 0) := (blk_cell BK346.out 2).trans rfl; have hfz28_0 := blk_frozen BK346.out 0; have hfz28_1 := blk_frozen BK346.out 1; have hfz28_2 := blk_frozen BK346.out 2)))
         refine bodyPost_ret (results_ct rfl _ _ gb346 25 #[.int .i64 0, .slice none 0 0, .slice none 0 0] (0, 0) _ rfl (by (with_reducible repeat (first | refine blk_drewN ?_ _ | refine blk_drew ?_ | refine blk_alloc ?_ _)); refine blk_put (cs := #[.int .i64 0, .slice none 0 0, .slice none 0 0]) ?_ 2 _ rfl; (with_reducible repeat (first | refine blk_drewN ?_ _ | refine blk_drew ?_ | refine blk_alloc ?_ _)); refine blk_put (cs := #[.int .i64 0, .slice none 0 0, .slice none 0 0]) ?_ 1 _ rfl; (with_reducible repeat (first | refine blk_drewN ?_ _ | refine blk_drew ?_ | refine blk_alloc ?_ _)); refine blk_put (cs := #[.int .i64 0, .slice none 0 0, .slice none 0 0]) ?_ 0 _ rfl; (with_reducible repeat (first | refine blk_drewN ?_ _ | refine blk_drew ?_ | refine blk_alloc ?_ _)); exact BK346.out) Try.underlying25 rfl (by kernel_rfl)) rfl ?_
         exact ⟨_, _, by first | rfl | (simp [errW_none, errW_some] <;> rfl) | (simp only [← hji13, ← hji16, ← hji18]; first | rfl | (simp [errW_none, errW_some] <;> rfl)) | (simp [*, errW_none, errW_some] <;> rfl), by first | exact Kd.R_nil _ _ _ _ _ | exact Kd.N_nil _ _ _ _ _ | exact Kd.V_nil _ _ _ _ _ | exact Kd.Q_nil _ _ _ _ _ | exact Kd.S_nil _ _ _ _ _, by first | exact Kd.R_nil _ _ _ _ _ | exact Kd.N_nil _ _ _ _ _ | exact Kd.V_nil _ _ _ _ _ | exact Kd.Q_nil _ _ _ _ _ | exact Kd.S_nil _ _ _ _ _, by repeat (first | (with_reducible first | exact HB.out | apply below_alloc | apply pw_below_drewN | apply below_drew1 | refine below_set ?_ GE346.out) | exact HB.out)⟩
       ·rw [if_neg c17] at H
        exact absurd H (by simp)
      ·rw [if_neg c15] at H
       exact absurd H (by simp)
     ·rw [if_neg c14] at H
      exact absurd H (by simp)
    ·rw [if_neg c12] at H
     have c12b0 : decide (0 < (wrap64 ((wrap64 (8 * (l0.length : Int))) - a1))) = false := decide_eq_false c12
     clear c12
     obtain ⟨y354, hy354⟩ : ∃ y_ : List Int, y_ = (([(wrap64 ((wrap64 (8 * (l0.length : Int))) - a1)) % 256] : List Int)) := ⟨_, rfl⟩
     replace H : (if y354.length + l0.length < 140737488355328 then (some (3, (y354 ++ l0), ([] : List (S25)), 0)) else (none)) = some (r1, r2, r3, r4) := by first | (rw [hy354]; with_reducible exact H) | (have H2_ := (Option.bind_some _ _).symm.trans H; rw [hy354]; with_reducible exact H2_) | (have H2_ := (Option.bind_some _ _).symm.trans H; with_reducible exact H2_) | with_reducible exact H | (rw [hy354]; exact H) | exact H
     have Ny354 := Aside0.mk hy354
     clear hy354
     by_cases c29 : y354.length + l0.length < 140737488355328
     ·rw [if_pos c29] at H
      have LMc29 := Aside0.mk c29
      clear c29
      obtain ⟨y357, hy357⟩ : ∃ y_ : List Int, y_ = (y354 ++ l0) := ⟨_, rfl⟩
      replace H : (some (3, y357, ([] : List (S25)), 0)) = some (r1, r2, r3, r4) := by first | (rw [hy357]; with_reducible exact H) | (have H2_ := (Option.bind_some _ _).symm.trans H; rw [hy357]; with_reducible exact H2_) | (have H2_ := (Option.bind_some _ _).symm.trans H; with_reducible exact H2_) | with_reducible exact H | (rw [hy357]; exact H) | exact H
      have Ny357 := Aside0.mk hy357
      clear hy357
      simp only [Option.some.injEq, Prod.mk.injEq] at H
      obtain ⟨rfl, rfl, rfl, rfl⟩ := H
      go_enter Try.func31, Try.ntmps31
      go_wp2_with (first | ((with_reducible refine gate_dst (N := 4) rfl ?_); (try (refine gate_guard (by rfl) ?_; dsimp only)); refine box_event ?hg (N := 4) ?hd (cs := #[.int .i64 0, .slice none 0 0, .slice none 0 0]) (t := 25) ?hr ?_; (case hd => rfl); (case hg => rfl); (case hr => first | (go_simp; done) | (go_simp; rfl)); intro gb346 hg w30 hbox hb; have n0_ := Aside0.mk (below_step (by repeat (first | (with_reducible first | exact HB.out | apply below_alloc | apply pw_below_drewN | apply below_drew1) | exact HB.out)) hb); have n1_ := Aside0.mk (hbox); have n2_ := Aside0.mk ((by rw [hg]; exact (below_size (by repeat (first | (with_reducible first | exact HB.out | apply below_alloc | apply pw_below_drewN | apply below_drew1) | exact HB.out))) : w.heap.size ≤ gb346)); have n3_ := Aside0.mk ((by rw [hg]; exact (below_size (by repeat (first | (with_reducible first | exact HB.out | apply below_alloc | apply pw_below_drewN | apply below_drew1) | exact HB.out))) : w.heap.size ≤ gb346)); clear HB; have HB := n0_; have BK346 := n1_; have GW346 := n2_; have GE346 := n3_; clear n0_ n1_ n2_ n3_; clear hb hbox hg) | ((with_reducible refine gate_dst (N := 42) rfl ?_); (try (refine gate_guard (by rfl) ?_; dsimp only)); refine Kd.R_lit (Kd.int .u8) _ 5 ?hg (N := 42) ?hd (xs := ([(wrap64 ((wrap64 (8 * (l0.length : Int))) - a1)) % 256] : List Int)) (inner := [.int .u8 ((wrap64 ((wrap64 (8 * (l0.length : Int))) - a1)) % 256)]) (ok := fun _ => True) (okp := fun _ => True) ?hr ?hp (fun _ hk => hk) trivial (Below.refl _ _) (Nat.le_refl _) (by simp) ?_; (case hd => rfl); (case hg => rfl); (case hr => first | (go_simp; done) | (go_simp; rfl)); (case hp => exact (Reps.one (show Kd.M (Kd.int .u8) _ _ _ ((wrap64 ((wrap64 (8 * (l0.length : Int))) - a1)) % 256) [.int .u8 ((wrap64 ((wrap64 (8 * (l0.length : Int))) - a1)) % 256)] from rfl) (Reps.none _ _))); intro v355 w31 ho32 hb hg_ hnew_; clear hg_ hnew_; (first | rw [← Ny354.out] at ho32 | (simp only [Int.reduceToNat] at ho32; rw [← Ny354.out] at ho32)); have n0_ := Aside0.mk (Kd.R_lower ho32 (below_size (by repeat (first | (with_reducible first | exact HB.out | apply below_alloc | apply pw_below_drewN | apply below_drew1 | refine below_set ?_ GE346.out) | exact HB.out)))); have n1_ := Aside0.mk (blk_below (g := gb346) (o := .cells #[.int .i64 0, .slice none 0 0, .slice none 0 0] 25 (0, 0)) (by (with_reducible repeat (first | refine blk_drewN ?_ _ | refine blk_drew ?_ | refine blk_alloc ?_ _)); exact BK346.out) hb); have n2_ := Aside0.mk (below_step (by repeat (first | (with_reducible first | exact HB.out | apply below_alloc | apply pw_below_drewN | apply below_drew1 | refine below_set ?_ GE346.out) | exact HB.out)) hb); clear BK346; clear HB; have HO356 := n0_; have BK346 := n1_; have HB := n2_; clear n0_ n1_ n2_; clear hb ho32) | ((with_reducible refine gate_builtin (b := .append) (xs := #[.tmp 42, .tmp 43]) rfl ?_); (try (refine gate_guard (by rfl) ?_; dsimp only)); at_builtin; refine Kd.R_append_rows (Kd.int .u8) (w0 := w) w.heap.size rfl (.tmp 42) (.tmp 43) 22 5 (.int .u8 0) 1 rfl Try.underlying22 info5 rfl (by decide) (by omega) v355 y354 l0 _ _ _ (fun _ => True) (fun _ => False) rfl rfl ?aO ?aR (fun _ _ h => h) (fun _ h => h.elim) ?aF ?aB ?aS ?aL ?_; (case aR => repeat (first | exact (Kd.C_below HR0.out HB.out) | (with_reducible refine Kd.C_alloc ?_ _) | (with_reducible refine Kd.C_drewN ?_ _) | (with_reducible refine Kd.C_drew ?_))); (case aB => exact (by repeat (first | (with_reducible first | exact HB.out | apply below_alloc | apply pw_below_drewN | apply below_drew1 | refine below_set ?_ GE346.out) | exact HB.out))); (case aF => exact (fun _ _ => trivial)); (case aO => exact (by (with_reducible repeat (first | apply Kd.R_alloc | apply Kd.R_drewN | apply Kd.R_drew)); exact HO356.out)); (case aS => exact (below_size (by repeat (first | (with_reducible first | exact HB.out | apply below_alloc | apply pw_below_drewN | apply below_drew1 | refine below_set ?_ GE346.out) | exact HB.out)))); (case aL => have := LMc29.out; omega); intro v358 w33 ho hb hg hat; rw [← Ny357.out] at ho; have n0_ := Aside0.mk (blk_grown (g := gb346) (o := .cells #[.int .i64 0, .slice none 0 0, .slice none 0 0] 25 (0, 0)) (by (with_reducible repeat (first | refine blk_drewN ?_ _ | refine blk_drew ?_ | refine blk_alloc ?_ _)); exact BK346.out) hg (Kd.R_ne HO356.out BK346.out (by decide))); have n1_ := Aside0.mk (hb); have n2_ := Aside0.mk (ho); clear BK346; clear HB; clear HO356; have BK346 := n0_; have HB := n1_; have HO359 := n2_; clear n0_ n1_ n2_; clear ho hb hg hat; obtain ⟨Ao34, co34, eo34⟩ := Kd.R_slice HO359.out; subst eo34; have hcz35_0 : w33.cell? ⟨gb346, 0, none⟩ = some (.int .i64 0) := (blk_cell BK346.out 0).trans rfl; have hcz35_1 : w33.cell? ⟨gb346, 1, none⟩ = some (.slice none 0 0) := (blk_cell BK346.out 1).trans rfl; have hcz35_2 : w33.cell? ⟨gb346, 2, none⟩ = some (.slice none 0 0) := (blk_cell BK346.out 2).trans rfl; have hfz35_0 := blk_frozen BK346.out 0; have hfz35_1 := blk_frozen BK346.out 1; have hfz35_2 := blk_frozen BK346.out 2))
      repeat (go_quiet (first | ((with_reducible refine gate_dst (N := 4) rfl ?_); (try (refine gate_guard (by rfl) ?_; dsimp only)); refine box_event ?hg (N := 4) ?hd (cs := #[.int .i64 0, .slice none 0 0, .slice none 0 0]) (t := 25) ?hr ?_; (case hd => rfl); (case hg => rfl); (case hr => first | (go_simp; done) | (go_simp; rfl)); intro gb346 hg w30 hbox hb; have n0_ := Aside0.mk (below_step (by repeat (first | (with_reducible first | exact HB.out | apply below_alloc | apply pw_below_drewN | apply below_drew1) | exact HB.out)) hb); have n1_ := Aside0.mk (hbox); have n2_ := Aside0.mk ((by rw [hg]; exact (below_size (by repeat (first | (with_reducible first | exact HB.out | apply below_alloc | apply pw_below_drewN | apply below_drew1) | exact HB.out))) : w.heap.size ≤ gb346)); have n3_ := Aside0.mk ((by rw [hg]; exact (below_size (by repeat (first | (with_reducible first | exact HB.out | apply below_alloc | apply pw_below_drewN | apply below_drew1) | exact HB.out))) : w.heap.size ≤ gb346)); clear HB; have HB := n0_; have BK346 := n1_; have GW346 := n2_; have GE346 := n3_; clear n0_ n1_ n2_ n3_; clear hb hbox hg) | ((with_reducible refine gate_dst (N := 42) rfl ?_); (try (refine gate_guard (by rfl) ?_; dsimp only)); refine Kd.R_lit (Kd.int .u8) _ 5 ?hg (N := 42) ?hd (xs := ([(wrap64 ((wrap64 (8 * (l0.length : Int))) - a1)) % 256] : List Int)) (inner := [.int .u8 ((wrap64 ((wrap64 (8 * (l0.length : Int))) - a1)) % 256)]) (ok := fun _ => True) (okp := fun _ => True) ?hr ?hp (fun _ hk => hk) trivial (Below.refl _ _) (Nat.le_refl _) (by simp) ?_; (case hd => rfl); (case hg => rfl); (case hr => first | (go_simp; done) | (go_simp; rfl)); (case hp => exact (Reps.one (show Kd.M (Kd.int .u8) _ _ _ ((wrap64 ((wrap64 (8 * (l0.length : Int))) - a1)) % 256) [.int .u8 ((wrap64 ((wrap64 (8 * (l0.length : Int))) - a1)) % 256)] from rfl) (Reps.none _ _))); intro v355 w31 ho32 hb hg_ hnew_; clear hg_ hnew_; (first | rw [← Ny354.out] at ho32 | (simp only [Int.reduceToNat] at ho32; rw [← Ny354.out] at ho32)); have n0_ := Aside0.mk (Kd.R_lower ho32 (below_size (by repeat (first | (with_reducible first | exact HB.out | apply below_alloc | apply pw_below_drewN | apply below_drew1 | refine below_set ?_ GE346.out) | exact HB.out)))); have n1_ := Aside0.mk (blk_below (g := gb346) (o := .cells #[.int .i64 0, .slice none 0 0, .slice none 0 0] 25 (0, 0)) (by (with_reducible repeat (first | refine blk_drewN ?_ _ | refine blk_drew ?_ | refine blk_alloc ?_ _)); exact BK346.out) hb); have n2_ := Aside0.mk (below_step (by repeat (first | (with_reducible first | exact HB.out | apply below_alloc | apply pw_below_drewN | apply below_drew1 | refine below_set ?_ GE346.out) | exact HB.out)) hb); clear BK346; clear HB; have HO356 := n0_; have BK346 := n1_; have HB := n2_; clear n0_ n1_ n2_; clear hb ho32) | ((with_reducible refine gate_builtin (b := .append) (xs := #[.tmp 42, .tmp 43]) rfl ?_); (try (refine gate_guard (by rfl) ?_; dsimp only)); at_builtin; refine Kd.R_append_rows (Kd.int .u8) (w0 := w) w.heap.size rfl (.tmp 42) (.tmp 43) 22 5 (.int .u8 0) 1 rfl Try.underlying22 info5 rfl (by decide) (by omega) v355 y354 l0 _ _ _ (fun _ => True) (fun _ => False) rfl rfl ?aO ?aR (fun _ _ h => h) (fun _ h => h.elim) ?aF ?aB ?aS ?aL ?_; (case aR => repeat (first | exact (Kd.C_below HR0.out HB.out) | (with_reducible refine Kd.C_alloc ?_ _) | (with_reducible refine Kd.C_drewN ?_ _) | (with_reducible refine Kd.C_drew ?_))); (case aB => exact (by repeat (first | (with_reducible first | exact HB.out | apply below_alloc | apply pw_below_drewN | apply below_drew1 | refine below_set ?_ GE346.out) | exact HB.out))); (case aF => exact (fun _ _ => trivial)); (case aO => exact (by (with_reducible repeat (first | apply Kd.R_alloc | apply Kd.R_drewN | apply Kd.R_drew)); exact HO356.out)); (case aS => exact (below_size (by repeat (first | (with_reducible first | exact HB.out | apply below_alloc | apply pw_below_drewN | apply below_drew1 | refine below_set ?_ GE346.out) | exact HB.out)))); (case aL => have := LMc29.out; omega); intro v358 w33 ho hb hg hat; rw [← Ny357.out] at ho; have n0_ := Aside0.mk (blk_grown (g := gb346) (o := .cells #[.int .i64 0, .slice none 0 0, .slice none 0 0] 25 (0, 0)) (by (with_reducible repeat (first | refine blk_drewN ?_ _ | refine blk_drew ?_ | refine blk_alloc ?_ _)); exact BK346.out) hg (Kd.R_ne HO356.out BK346.out (by decide))); have n1_ := Aside0.mk (hb); have n2_ := Aside0.mk (ho); clear BK346; clear HB; clear HO356; have BK346 := n0_; have HB := n1_; have HO359 := n2_; clear n0_ n1_ n2_; clear ho hb hg hat; obtain ⟨Ao34, co34, eo34⟩ := Kd.R_slice HO359.out; subst eo34; have hcz35_0 : w33.cell? ⟨gb346, 0, none⟩ = some (.int .i64 0) := (blk_cell BK346.out 0).trans rfl; have hcz35_1 : w33.cell? ⟨gb346, 1, none⟩ = some (.slice none 0 0) := (blk_cell BK346.out 1).trans rfl; have hcz35_2 : w33.cell? ⟨gb346, 2, none⟩ = some (.slice none 0 0) := (blk_cell BK346.out 2).trans rfl; have hfz35_0 := blk_frozen BK346.out 0; have hfz35_1 := blk_frozen BK346.out 1; have hfz35_2 := blk_frozen BK346.out 2)); try go_wp2_with (first | ((with_reducible refine gate_dst (N := 4) rfl ?_); (try (refine gate_guard (by rfl) ?_; dsimp only)); refine box_event ?hg (N := 4) ?hd (cs := #[.int .i64 0, .slice none 0 0, .slice none 0 0]) (t := 25) ?hr ?_; (case hd => rfl); (case hg => rfl); (case hr => first | (go_simp; done) | (go_simp; rfl)); intro gb346 hg w30 hbox hb; have n0_ := Aside0.mk (below_step (by repeat (first | (with_reducible first | exact HB.out | apply below_alloc | apply pw_below_drewN | apply below_drew1) | exact HB.out)) hb); have n1_ := Aside0.mk (hbox); have n2_ := Aside0.mk ((by rw [hg]; exact (below_size (by repeat (first | (with_reducible first | exact HB.out | apply below_alloc | apply pw_below_drewN | apply below_drew1) | exact HB.out))) : w.heap.size ≤ gb346)); have n3_ := Aside0.mk ((by rw [hg]; exact (below_size (by repeat (first | (with_reducible first | exact HB.out | apply below_alloc | apply pw_below_drewN | apply below_drew1) | exact HB.out))) : w.heap.size ≤ gb346)); clear HB; have HB := n0_; have BK346 := n1_; have GW346 := n2_; have GE346 := n3_; clear n0_ n1_ n2_ n3_; clear hb hbox hg) | ((with_reducible refine gate_dst (N := 42) rfl ?_); (try (refine gate_guard (by rfl) ?_; dsimp only)); refine Kd.R_lit (Kd.int .u8) _ 5 ?hg (N := 42) ?hd (xs := ([(wrap64 ((wrap64 (8 * (l0.length : Int))) - a1)) % 256] : List Int)) (inner := [.int .u8 ((wrap64 ((wrap64 (8 * (l0.length : Int))) - a1)) % 256)]) (ok := fun _ => True) (okp := fun _ => True) ?hr ?hp (fun _ hk => hk) trivial (Below.refl _ _) (Nat.le_refl _) (by simp) ?_; (case hd => rfl); (case hg => rfl); (case hr => first | (go_simp; done) | (go_simp; rfl)); (case hp => exact (Reps.one (show Kd.M (Kd.int .u8) _ _ _ ((wrap64 ((wrap64 (8 * (l0.length : Int))) - a1)) % 256) [.int .u8 ((wrap64 ((wrap64 (8 * (l0.length : Int))) - a1)) % 256)] from rfl) (Reps.none _ _))); intro v355 w31 ho32 hb hg_ hnew_; clear hg_ hnew_; (first | rw [← Ny354.out] at ho32 | (simp only [Int.reduceToNat] at ho32; rw [← Ny354.out] at ho32)); have n0_ := Aside0.mk (Kd.R_lower ho32 (below_size (by repeat (first | (with_reducible first | exact HB.out | apply below_alloc | apply pw_below_drewN | apply below_drew1 | refine below_set ?_ GE346.out) | exact HB.out)))); have n1_ := Aside0.mk (blk_below (g := gb346) (o := .cells #[.int .i64 0, .slice none 0 0, .slice none 0 0] 25 (0, 0)) (by (with_reducible repeat (first | refine blk_drewN ?_ _ | refine blk_drew ?_ | refine blk_alloc ?_ _)); exact BK346.out) hb); have n2_ := Aside0.mk (below_step (by repeat (first | (with_reducible first | exact HB.out | apply below_alloc | apply pw_below_drewN | apply below_drew1 | refine below_set ?_ GE346.out) | exact HB.out)) hb); clear BK346; clear HB; have HO356 := n0_; have BK346 := n1_; have HB := n2_; clear n0_ n1_ n2_; clear hb ho32) | ((with_reducible refine gate_builtin (b := .append) (xs := #[.tmp 42, .tmp 43]) rfl ?_); (try (refine gate_guard (by rfl) ?_; dsimp only)); at_builtin; refine Kd.R_append_rows (Kd.int .u8) (w0 := w) w.heap.size rfl (.tmp 42) (.tmp 43) 22 5 (.int .u8 0) 1 rfl Try.underlying22 info5 rfl (by decide) (by omega) v355 y354 l0 _ _ _ (fun _ => True) (fun _ => False) rfl rfl ?aO ?aR (fun _ _ h => h) (fun _ h => h.elim) ?aF ?aB ?aS ?aL ?_; (case aR => repeat (first | exact (Kd.C_below HR0.out HB.out) | (with_reducible refine Kd.C_alloc ?_ _) | (with_reducible refine Kd.C_drewN ?_ _) | (with_reducible refine Kd.C_drew ?_))); (case aB => exact (by repeat (first | (with_reducible first | exact HB.out | apply below_alloc | apply pw_below_drewN | apply below_drew1 | refine below_set ?_ GE346.out) | exact HB.out))); (case aF => exact (fun _ _ => trivial)); (case aO => exact (by (with_reducible repeat (first | apply Kd.R_alloc | apply Kd.R_drewN | apply Kd.R_drew)); exact HO356.out)); (case aS => exact (below_size (by repeat (first | (with_reducible first | exact HB.out | apply below_alloc | apply pw_below_drewN | apply below_drew1 | refine below_set ?_ GE346.out) | exact HB.out)))); (case aL => have := LMc29.out; omega); intro v358 w33 ho hb hg hat; rw [← Ny357.out] at ho; have n0_ := Aside0.mk (blk_grown (g := gb346) (o := .cells #[.int .i64 0, .slice none 0 0, .slice none 0 0] 25 (0, 0)) (by (with_reducible repeat (first | refine blk_drewN ?_ _ | refine blk_drew ?_ | refine blk_alloc ?_ _)); exact BK346.out) hg (Kd.R_ne HO356.out BK346.out (by decide))); have n1_ := Aside0.mk (hb); have n2_ := Aside0.mk (ho); clear BK346; clear HB; clear HO356; have BK346 := n0_; have HB := n1_; have HO359 := n2_; clear n0_ n1_ n2_; clear ho hb hg hat; obtain ⟨Ao34, co34, eo34⟩ := Kd.R_slice HO359.out; subst eo34; have hcz35_0 : w33.cell? ⟨gb346, 0, none⟩ = some (.int .i64 0) := (blk_cell BK346.out 0).trans rfl; have hcz35_1 : w33.cell? ⟨gb346, 1, none⟩ = some (.slice none 0 0) := (blk_cell BK346.out 1).trans rfl; have hcz35_2 : w33.cell? ⟨gb346, 2, none⟩ = some (.slice none 0 0) := (blk_cell BK346.out 2).trans rfl; have hfz35_0 := blk_frozen BK346.out 0; have hfz35_1 := blk_frozen BK346.out 1; have hfz35_2 := blk_frozen BK346.out 2)))
      refine bodyPost_ret (results_ct rfl _ _ gb346 25 #[.int .i64 3, .slice Ao34 y357.length co34, .slice none 0 0] (0, 0) _ rfl (by (with_reducible repeat (first | refine blk_drewN ?_ _ | refine blk_drew ?_ | refine blk_alloc ?_ _)); refine blk_put (cs := #[.int .i64 3, .slice Ao34 y357.length co34, .slice none 0 0]) ?_ 2 _ rfl; (with_reducible repeat (first | refine blk_drewN ?_ _ | refine blk_drew ?_ | refine blk_alloc ?_ _)); refine blk_put (cs := #[.int .i64 3, .slice none 0 0, .slice none 0 0]) ?_ 1 _ rfl; (with_reducible repeat (first | refine blk_drewN ?_ _ | refine blk_drew ?_ | refine blk_alloc ?_ _)); refine blk_put (cs := #[.int .i64 0, .slice none 0 0, .slice none 0 0]) ?_ 0 _ rfl; (with_reducible repeat (first | refine blk_drewN ?_ _ | refine blk_drew ?_ | refine blk_alloc ?_ _)); exact BK346.out) Try.underlying25 rfl (by kernel_rfl)) rfl ?_
      exact ⟨_, _, by first | rfl | (simp [errW_none, errW_some] <;> rfl) | (simp [*, errW_none, errW_some] <;> rfl), by (with_reducible repeat (first | apply Kd.R_alloc | apply Kd.R_drewN | apply Kd.R_drew)); exact Kd.R_mono (Kd.R_far (p := ⟨gb346, 2, none⟩) (Kd.R_far (p := ⟨gb346, 1, none⟩) (Kd.R_far (p := ⟨gb346, 0, none⟩) (Kd.R_types HO359.out BK346.out (by decide)) (fun _ hk => hk.2) (.int .i64 3)) (fun _ hk => hk.2) (.slice Ao34 y357.length co34)) (fun _ hk => hk.2) (.slice none 0 0)) (fun _ hk => trivial), by first | exact Kd.R_nil _ _ _ _ _ | exact Kd.N_nil _ _ _ _ _ | exact Kd.V_nil _ _ _ _ _ | exact Kd.Q_nil _ _ _ _ _ | exact Kd.S_nil _ _ _ _ _, by repeat (first | (with_reducible first | exact HB.out | apply below_alloc | apply pw_below_drewN | apply below_drew1 | refine below_set ?_ GE346.out) | exact HB.out)⟩
     ·rw [if_neg c29] at H
      exact absurd H (by simp)

end Go.Proofs.Ytmbgjhkemlliaaa.PT
end

/- The machine side: functions as plain Lean functions, and that the calls come to what these say; written by a program of this session (wip/tools/inc.py over the kit's printer). -/
section
namespace Go.Proofs.Ytmbgjhkemlliaaa.PT
open Go.RowKit Go.Proofs.YtmbgjhkemlliaaaW.PrintWords Go.Proofs.YtmbgjhkemlliaaaW.PrintLast Go.Proofs.YtmbgjhkemlliaaaW.PrintMore
attribute [local go_sem] max2_int min2_int max_two min_two max_three min_three max_four min_four   -- for this text's walks alone
set_option linter.unusedVariables false
set_option linter.unusedSimpArgs false

/-! ### spki_whole: function 15 -/
def spki_whole.f (l0 : List Int) : Option (Int × List Int × (List (S25))) := (scalar_Bits.f l0 (wrap64 (8 * (l0.length : Int)))).bind fun bt361 => (some (bt361.1, bt361.2.1, bt361.2.2.1))
set_option maxHeartbeats 8000000 in
set_option maxRecDepth 100000 in
theorem spki_whole.calls (A0 : Option Addr) (c0 : Nat) (l0 : List Int) (r1 : Int) (r2 : List Int) (r3 : List (S25)) (w : World) (hr0 : Kd.C (Kd.int .u8) w A0 l0.length l0) (hc0 : l0.length ≤ c0) (h : spki_whole.f l0 = some (r1, r2, r3)) :
 Calls Try.prog 15 #[.slice A0 l0.length c0] w fun e w' => ∃ v1_ v2_ : Value, e = .returned (.agg #[.int .i64 r1, v1_, v2_]) ∧ Kd.R (Kd.int .u8) 5 w' w.heap.size (fun _ => True) v1_ r2 ∧ Kd.R k25 25 w' w.heap.size (fun k_ => some k_ ≠ (v1_ : Value).ownBlock) v2_ r3 ∧ Below w.heap.size w w' := by
 have hu25 := Try.underlying25
 have HR0 := Aside0.mk hr0
 have HC0 := Aside0.mk hc0
 clear hr0 hc0
 have HB := Aside0.mk (Below.refl w.heap.size w)
 have H : ((scalar_Bits.f l0 (wrap64 (8 * (l0.length : Int)))).bind fun bt361 => (some (bt361.1, bt361.2.1, bt361.2.2.1))) = some (r1, r2, r3) := h
 clear h
 replace H := Option.bind_eq_some_iff.mp H
 obtain ⟨⟨t361, t362, t365, t368⟩, A20, H⟩ := H
 replace H : (some (t361, t362, t365)) = some (r1, r2, r3) := H
 have A2 := Aside0.mk A20
 clear A20
 simp only [Option.some.injEq, Prod.mk.injEq] at H
 obtain ⟨rfl, rfl, rfl⟩ := H
 go_enter Try.func15, Try.ntmps15
 go_wp2_with (first | ((with_reducible refine gate_dst (N := 2) rfl ?_); refine box_event ?hg (N := 2) ?hd (cs := #[.int .i64 0, .slice none 0 0, .slice none 0 0]) (t := 25) ?hr ?_; (case hd => rfl); (case hg => rfl); (case hr => first | (go_simp; done) | (go_simp; rfl)); intro gb360 hg w3 hbox hb; have n0_ := Aside0.mk (below_step (by repeat (first | (with_reducible first | exact HB.out | apply below_alloc | apply pw_below_drewN | apply below_drew1) | exact HB.out)) hb); have n1_ := Aside0.mk (hbox); have n2_ := Aside0.mk ((by rw [hg]; exact (below_size (by repeat (first | (with_reducible first | exact HB.out | apply below_alloc | apply pw_below_drewN | apply below_drew1) | exact HB.out))) : w.heap.size ≤ gb360)); have n3_ := Aside0.mk ((by rw [hg]; exact (below_size (by repeat (first | (with_reducible first | exact HB.out | apply below_alloc | apply pw_below_drewN | apply below_drew1) | exact HB.out))) : w.heap.size ≤ gb360)); clear HB; have HB := n0_; have BK360 := n1_; have GW360 := n2_; have GE360 := n3_; clear n0_ n1_ n2_ n3_; clear hb hbox hg) | ((with_reducible refine gate_callee (f := 31) rfl ?_); refine goesL_ (some 10) rfl rfl Try.func31 (by kernel_rfl) rfl #[.slice A0 l0.length c0, .int .i64 (wrap64 (8 * (l0.length : Int)))] rfl (by (try simp only [List.map_toArray, List.map_cons, List.map_nil]); first | done | rfl | (simp only [List.length_drop, List.length_take]; rfl)) ?_; (with_reducible refine (scalar_Bits.calls _ _ l0 (wrap64 (8 * (l0.length : Int))) t361 t362 t365 t368 _ ?side1 ?side2 A2.out).mono ?_); (case side1 => repeat (first | exact (Kd.C_below HR0.out HB.out) | (with_reducible refine Kd.C_alloc ?_ _) | (with_reducible refine Kd.C_drewN ?_ _) | (with_reducible refine Kd.C_drew ?_))); (case side2 => exact HC0.out); rintro e w4 ⟨v363, v366, rfl, ho0, ho1, hb⟩; refine ⟨_, rfl, ?_⟩; have n0_ := Aside0.mk (Kd.R_lower ho0 (below_size (by repeat (first | (with_reducible first | exact HB.out | apply below_alloc | apply pw_below_drewN | apply below_drew1 | refine below_set ?_ GE360.out) | exact HB.out)))); have n1_ := Aside0.mk (Kd.R_lower (Kd.R_newB ho1 (g := gb360) (o := .cells #[.int .i64 0, .slice none 0 0, .slice none 0 0] 25 (0, 0)) (by (with_reducible repeat (first | refine blk_drewN ?_ _ | refine blk_drew ?_ | refine blk_alloc ?_ _)); exact BK360.out)) (below_size (by repeat (first | (with_reducible first | exact HB.out | apply below_alloc | apply pw_below_drewN | apply below_drew1 | refine below_set ?_ GE360.out) | exact HB.out)))); have n2_ := Aside0.mk (blk_below (g := gb360) (o := .cells #[.int .i64 0, .slice none 0 0, .slice none 0 0] 25 (0, 0)) (by (with_reducible repeat (first | refine blk_drewN ?_ _ | refine blk_drew ?_ | refine blk_alloc ?_ _)); exact BK360.out) hb); have n3_ := Aside0.mk (below_step (by repeat (first | (with_reducible first | exact HB.out | apply below_alloc | apply pw_below_drewN | apply below_drew1 | refine below_set ?_ GE360.out) | exact HB.out)) hb); clear BK360; clear HB; have HO364 := n0_; have HO367 := n1_; have BK360 := n2_; have HB := n3_; clear n0_ n1_ n2_ n3_; (try clear hb); (try clear hb2); (try clear hk); (try clear hi); (try clear ho0); (try clear ho1)) | ((with_reducible refine gate_dst (N := 3) rfl ?_); refine box_event ?hg (N := 3) ?hd (cs := #[.int .i64 0, .slice none 0 0, .slice none 0 0]) (t := 25) ?hr ?_; (case hd => rfl); (case hg => rfl); (case hr => first | (go_simp; done) | (go_simp; rfl)); intro gb369 hg w5 hbox hb; have n0_ := Aside0.mk (Kd.R_below (by (with_reducible repeat (first | apply Kd.R_alloc | apply Kd.R_drewN | apply Kd.R_drew)); exact HO364.out) hb); have n1_ := Aside0.mk (Kd.R_below (Kd.R_elderB (by (with_reducible repeat (first | apply Kd.R_alloc | apply Kd.R_drewN | apply Kd.R_drew)); exact HO367.out) gb369 (Nat.le_of_eq hg.symm)) hb); have n2_ := Aside0.mk (blk_below (g := gb360) (o := .cells #[.int .i64 0, .slice none 0 0, .slice none 0 0] 25 (0, 0)) (by (with_reducible repeat (first | refine blk_drewN ?_ _ | refine blk_drew ?_ | refine blk_alloc ?_ _)); exact BK360.out) hb); have n3_ := Aside0.mk (below_step (by repeat (first | (with_reducible first | exact HB.out | apply below_alloc | apply pw_below_drewN | apply below_drew1 | refine below_set ?_ GE360.out) | exact HB.out)) hb); have n4_ := Aside0.mk (hbox); have n5_ := Aside0.mk ((by rw [hg]; exact (below_size (by repeat (first | (with_reducible first | exact HB.out | apply below_alloc | apply pw_below_drewN | apply below_drew1 | refine below_set ?_ GE360.out) | exact HB.out))) : w.heap.size ≤ gb369)); have n6_ := Aside0.mk ((by rw [hg]; exact (below_size (by repeat (first | (with_reducible first | exact HB.out | apply below_alloc | apply pw_below_drewN | apply below_drew1 | refine below_set ?_ GE360.out) | exact HB.out))) : w.heap.size ≤ gb369)); have n7_ := Aside0.mk ((by rw [hg]; exact Nat.ne_of_lt (blk_lt (g := gb360) (o := .cells #[.int .i64 0, .slice none 0 0, .slice none 0 0] 25 (0, 0)) (by (with_reducible repeat (first | refine blk_drewN ?_ _ | refine blk_drew ?_ | refine blk_alloc ?_ _)); exact BK360.out)) : gb360 ≠ gb369)); have n8_ := Aside0.mk ((by rw [hg]; exact Nat.ne_of_gt (blk_lt (g := gb360) (o := .cells #[.int .i64 0, .slice none 0 0, .slice none 0 0] 25 (0, 0)) (by (with_reducible repeat (first | refine blk_drewN ?_ _ | refine blk_drew ?_ | refine blk_alloc ?_ _)); exact BK360.out)) : gb369 ≠ gb360)); clear HO364; clear HO367; clear BK360; clear HB; have HO364 := n0_; have HO367 := n1_; have BK360 := n2_; have HB := n3_; have BK369 := n4_; have GW369 := n5_; have GE369 := n6_; have NB360_369 := n7_; have NB369_360 := n8_; clear n0_ n1_ n2_ n3_ n4_ n5_ n6_ n7_ n8_; clear hb hbox hg; have hnb6 := NB369_360.out; have hnc6 := NB360_369.out; have hcz7_0 : w5.cell? ⟨gb369, 0, none⟩ = some (.int .i64 0) := (blk_cell BK369.out 0).trans rfl; have hcz7_1 : w5.cell? ⟨gb369, 1, none⟩ = some (.slice none 0 0) := (blk_cell BK369.out 1).trans rfl; have hcz7_2 : w5.cell? ⟨gb369, 2, none⟩ = some (.slice none 0 0) := (blk_cell BK369.out 2).trans rfl; have hfz7_0 := blk_frozen BK369.out 0; have hfz7_1 := blk_frozen BK369.out 1; have hfz7_2 := blk_frozen BK369.out 2; obtain ⟨Ao8, co8, eo8⟩ := Kd.R_slice HO364.out; subst eo8; obtain ⟨Ao9, co9, eo9⟩ := Kd.R_slice HO367.out; subst eo9; have hcz10_0 : w5.cell? ⟨gb360, 0, none⟩ = some (.int .i64 0) := (blk_cell BK360.out 0).trans rfl; have hcz10_1 : w5.cell? ⟨gb360, 1, none⟩ = some (.slice none 0 0) := (blk_cell BK360.out 1).trans rfl; have hcz10_2 : w5.cell? ⟨gb360, 2, none⟩ = some (.slice none 0 0) := (blk_cell BK360.out 2).trans rfl; have hfz10_0 := blk_frozen BK360.out 0; have hfz10_1 := blk_frozen BK360.out 1; have hfz10_2 := blk_frozen BK360.out 2))
 refine bodyPost_ret (results_cell_row rfl _ _ gb360 25 #[.int .i64 t361, .slice Ao8 t362.length co8, .slice Ao9 t365.length co9] (0, 0) _ rfl (by (with_reducible repeat (first | refine blk_drewN ?_ _ | refine blk_drew ?_ | refine blk_alloc ?_ _)); refine blk_put (cs := #[.int .i64 t361, .slice Ao8 t362.length co8, .slice none 0 0]) ?_ 2 _ rfl; (with_reducible repeat (first | refine blk_drewN ?_ _ | refine blk_drew ?_ | refine blk_alloc ?_ _)); refine blk_put (cs := #[.int .i64 t361, .slice none 0 0, .slice none 0 0]) ?_ 1 _ rfl; (with_reducible repeat (first | refine blk_drewN ?_ _ | refine blk_drew ?_ | refine blk_alloc ?_ _)); refine blk_put (cs := #[.int .i64 0, .slice none 0 0, .slice none 0 0]) ?_ 0 _ rfl; (with_reducible repeat (first | refine blk_drewN ?_ _ | refine blk_drew ?_ | refine blk_alloc ?_ _)); refine blk_far ?_ NB360_369.out _; (with_reducible repeat (first | refine blk_drewN ?_ _ | refine blk_drew ?_ | refine blk_alloc ?_ _)); refine blk_far ?_ NB360_369.out _; (with_reducible repeat (first | refine blk_drewN ?_ _ | refine blk_drew ?_ | refine blk_alloc ?_ _)); refine blk_far ?_ NB360_369.out _; (with_reducible repeat (first | refine blk_drewN ?_ _ | refine blk_drew ?_ | refine blk_alloc ?_ _)); exact BK360.out) Try.underlying25 rfl (by kernel_rfl)) rfl ?_
 exact ⟨_, _, by first | rfl | (simp [errW_none, errW_some] <;> rfl) | (simp [*, errW_none, errW_some] <;> rfl), by (with_reducible repeat (first | apply Kd.R_alloc | apply Kd.R_drewN | apply Kd.R_drew)); exact Kd.R_mono (Kd.R_far (p := ⟨gb360, 2, none⟩) (Kd.R_far (p := ⟨gb360, 1, none⟩) (Kd.R_far (p := ⟨gb360, 0, none⟩) (Kd.R_far (p := ⟨gb369, 2, none⟩) (Kd.R_far (p := ⟨gb369, 1, none⟩) (Kd.R_far (p := ⟨gb369, 0, none⟩) (Kd.R_types (Kd.R_types HO364.out BK369.out (by decide)) BK360.out (by decide)) (fun _ hk => hk.1.2) (.int .i64 t361)) (fun _ hk => hk.1.2) (.slice Ao8 t362.length co8)) (fun _ hk => hk.1.2) (.slice Ao9 t365.length co9)) (fun _ hk => hk.2) (.int .i64 t361)) (fun _ hk => hk.2) (.slice Ao8 t362.length co8)) (fun _ hk => hk.2) (.slice Ao9 t365.length co9)) (fun _ hk => trivial), by (with_reducible repeat (first | apply Kd.R_alloc | apply Kd.R_drewN | apply Kd.R_drew)); exact Kd.R_mono (Kd.R_far (p := ⟨gb360, 2, none⟩) (Kd.R_far (p := ⟨gb360, 1, none⟩) (Kd.R_far (p := ⟨gb360, 0, none⟩) (Kd.R_far (p := ⟨gb369, 2, none⟩) (Kd.R_far (p := ⟨gb369, 1, none⟩) (Kd.R_far (p := ⟨gb369, 0, none⟩) (Kd.R_mono (Kd.R_mono HO367.out (fun k_ hk => (⟨hk, hk.2⟩ : _ ∧ k_ ≠ gb369))) (fun k_ hk => (⟨hk, hk.1.1.2⟩ : _ ∧ k_ ≠ gb360))) (fun _ hk => hk.1.2) (.int .i64 t361)) (fun _ hk => hk.1.2) (.slice Ao8 t362.length co8)) (fun _ hk => hk.1.2) (.slice Ao9 t365.length co9)) (fun _ hk => hk.2) (.int .i64 t361)) (fun _ hk => hk.2) (.slice Ao8 t362.length co8)) (fun _ hk => hk.2) (.slice Ao9 t365.length co9)) (fun _ hk => hk.1.1.1.1), by repeat (first | (with_reducible first | exact HB.out | apply below_alloc | apply pw_below_drewN | apply below_drew1 | refine below_set ?_ GE360.out | refine below_set ?_ GE369.out) | exact HB.out)⟩

end Go.Proofs.Ytmbgjhkemlliaaa.PT
end

/- spki.made, walked. -/
section
set_option linter.unusedVariables false
set_option linter.unusedSimpArgs false
namespace Go.Proofs.Ytmbgjhkemlliaaa.Tlv
open Go.RowKit Go.Proofs.YtmbgjhkemlliaaaW.PrintWords Go.Proofs.YtmbgjhkemlliaaaW.PrintLast Go.Proofs.YtmbgjhkemlliaaaW.PrintMore Go.Proofs.Ytmbgjhkemlliaaa.PT

theorem C_nil {α : Type} (d : Kd α) (w : World) (A : Option Addr) : d.C w A 0 [] := ⟨rfl, by omega, fun h => absurd h (by omega)⟩
theorem C_ints {k : IntKind} {w : World} {g : Nat} {t : TypeId} {l : List Int} (h : w.heap[g]? = some (.cells (l.map (Value.int k)).toArray t (0, 0))) (hl : l.length ≤ 9223372036854775807) : (Kd.int k).C w (some ⟨g, 0, none⟩) l.length l :=
 ⟨rfl, hl, fun _ => ⟨_, rfl, fun j p hj => ⟨[.int k p], rfl, rfl, fun i u hu => by
  cases i with
  | succ i => simp at hu
  | zero =>
   rw [List.getElem?_cons_zero] at hu
   injection hu with hu
   subst hu
   have e : Addr.add ⟨g, 0, none⟩ (j * 1 + 0) = ⟨g, j, none⟩ := by rw [Nat.mul_one, Nat.add_zero]; unfold Addr.add; simp; exact Eq.symm
   rw [show (Kd.int k).sz = 1 from rfl, e, Lib.cell_of_heap h j]
   rw [List.getElem?_toArray, List.getElem?_map, hj]; rfl⟩⟩⟩
/-- An element of one's own: its rows lie in blocks from base on, below m. -/
structure NodeR (w : World) (base m : Nat) (n : T) (v1 v2 : Value) : Prop where
 b : (Kd.int .u8).R 5 w base (fun k => base ≤ k ∧ k < m) v1 n.f1
 k : k25.R 25 w base (fun k => base ≤ k ∧ k < m) v2 n.f2
theorem NodeR.of {w : World} {base : Nat} {n : T} {v1 v2 : Value} {ok1 ok2 : Nat → Prop} (h1 : (Kd.int .u8).R 5 w base ok1 v1 n.f1) (h2 : k25.R 25 w base ok2 v2 n.f2) : NodeR w base w.heap.size n v1 v2 :=
 ⟨Kd.R_mono (Kd.R_bound h1) (fun _ h => ⟨h.2.1, h.2.2.1⟩), Kd.R_mono (Kd.R_bound h2) (fun _ h => ⟨h.2.1, h.2.2.1⟩)⟩
theorem NodeR.move {w w1 : World} {base m : Nat} {n : T} {v1 v2 : Value} (h : NodeR w base m n v1 v2) (hm : ∀ k, base ≤ k → k < m → w1.heap[k]? = w.heap[k]?) : NodeR w1 base m n v1 v2 :=
 ⟨Kd.R_move h.b (fun k hk => hm k hk.1 hk.2), Kd.R_move h.k (fun k hk => hm k hk.1 hk.2)⟩
theorem NodeR.widen {w : World} {base base' m m' : Nat} {n : T} {v1 v2 : Value} (h : NodeR w base m n v1 v2) (hb : base' ≤ base) (hm : m ≤ m') : NodeR w base' m' n v1 v2 :=
 ⟨Kd.R_lower (Kd.R_mono h.b (fun k hk => ⟨by omega, by omega⟩)) hb, Kd.R_lower (Kd.R_mono h.k (fun k hk => ⟨by omega, by omega⟩)) hb⟩
theorem NodeR.below {w w1 : World} {base m : Nat} {n : T} {v1 v2 : Value} (h : NodeR w base m n v1 v2) (hb : Below m w w1) : NodeR w1 base m n v1 v2 := h.move (fun k _ hk => hb.block k hk)
theorem NodeR.form {w : World} {base m : Nat} {n : T} {v1 v2 : Value} (h : NodeR w base m n v1 v2) : ∃ A1 c1 A2 c2, v1 = .slice A1 n.f1.length c1 ∧ v2 = .slice A2 n.f2.length c2 ∧ NodeAt w n A1 c1 A2 c2 := by
 obtain ⟨A1, c1, e1, hc1, hr1⟩ := Kd.R_reads h.b
 obtain ⟨A2, c2, e2, hc2, hr2⟩ := Kd.R_reads h.k
 exact ⟨A1, c1, A2, c2, e1, e2, hr1, hc1, hr2, hc2⟩
theorem NodeR.at {w : World} {base m : Nat} {n : T} {A1 : Option Addr} {c1 : Nat} {A2 : Option Addr} {c2 : Nat} (h : NodeR w base m n (.slice A1 n.f1.length c1) (.slice A2 n.f2.length c2)) : NodeAt w n A1 c1 A2 c2 := by
 obtain ⟨B1, d1, B2, d2, e1, e2, hn⟩ := h.form
 injection e1 with e1 _ e3
 injection e2 with e2 _ e4
 subst e1 e2 e3 e4
 exact hn
theorem NodeR.M {w : World} {base m g m' : Nat} {n : T} {v1 v2 : Value} (h : NodeR w base m n v1 v2) (hg : m ≤ g) (hm : m ≤ m') : k25.M w base (fun k => (base ≤ k ∧ k < m') ∧ some k ≠ some g) n [.int .i64 n.f0, v1, v2] :=
 k25_mkM w base _ n (Kd.R_mono h.b (fun k hk => ⟨⟨hk.1, by omega⟩, by simp; omega⟩)) (Kd.R_mono h.k (fun k hk => ⟨⟨hk.1, by omega⟩, by simp; omega⟩))
/-- A row of elements that has been laid in block g. -/
theorem R_row {w : World} {base g m : Nat} {l : List T} {cs : List Value} (h : w.heap[g]? = some (.cells cs.toArray 25 (0, 0))) (hb : base ≤ g) (hm : g < m) (hr : Reps (k25.M w base (fun k => (base ≤ k ∧ k < m) ∧ some k ≠ some g)) 3 l cs) (hl : l.length ≤ 1000000) :
 k25.R 25 w base (fun k => base ≤ k ∧ k < m) (.slice (some ⟨g, 0, none⟩) l.length l.length) l :=
 ⟨fun k hk => by
  have : g = k := by simpa [Value.ownBlock] using hk
  subst this
  exact ⟨hb, hm⟩, cs, ⟨hr.1, .inr ⟨g, l.length, cs.toArray, rfl, hb, h, Nat.le_refl _, by simp only [maxLen]; omega, by show cs.toArray.size = l.length * 3; rw [List.size_toArray]; exact hr.1, by
   rw [show cs.toArray.toList = cs from rfl]
   exact List.take_of_length_le (by rw [hr.1]; exact Nat.le_refl _)⟩⟩, hr⟩
theorem Reps_one {w : World} {base m g m' : Nat} {a : T} {x1 x2 : Value} (h1 : NodeR w base m a x1 x2) (hg : m ≤ g) (hm : m ≤ m') : Reps (k25.M w base (fun k => (base ≤ k ∧ k < m') ∧ some k ≠ some g)) 3 [a] [.int .i64 a.f0, x1, x2] :=
 (Reps.none _ _).snoc (p := a) (c := [.int .i64 a.f0, x1, x2]) (h1.M hg hm) rfl
theorem Reps_two {w : World} {base m g m' : Nat} {a b : T} {x1 x2 y1 y2 : Value} (h1 : NodeR w base m a x1 x2) (h2 : NodeR w base m b y1 y2) (hg : m ≤ g) (hm : m ≤ m') : Reps (k25.M w base (fun k => (base ≤ k ∧ k < m') ∧ some k ≠ some g)) 3 [a, b] [.int .i64 a.f0, x1, x2, .int .i64 b.f0, y1, y2] :=
 (Reps_one h1 hg hm).snoc (p := b) (c := [.int .i64 b.f0, y1, y2]) (h2.M hg hm) rfl
theorem Reps_three {w : World} {base m g m' : Nat} {a b c : T} {x1 x2 y1 y2 z1 z2 : Value} (h1 : NodeR w base m a x1 x2) (h2 : NodeR w base m b y1 y2) (h3 : NodeR w base m c z1 z2) (hg : m ≤ g) (hm : m ≤ m') : Reps (k25.M w base (fun k => (base ≤ k ∧ k < m') ∧ some k ≠ some g)) 3 [a, b, c] [.int .i64 a.f0, x1, x2, .int .i64 b.f0, y1, y2, .int .i64 c.f0, z1, z2] :=
 (Reps_two h1 h2 hg hm).snoc (p := c) (c := [.int .i64 c.f0, z1, z2]) (h3.M hg hm) rfl
theorem NodeR.nilnil (w : World) (base m : Nat) (a : Int) : NodeR w base m ⟨a, [], []⟩ (.slice none 0 0) (.slice none 0 0) := ⟨Kd.R_nil _ _ _ _ _, Kd.R_nil _ _ _ _ _⟩

def oidB (x : Int) : List Int := [42, 134, 72, 134, 247, 13, 1, 1, x]
def algT (x : Int) : T := ⟨48, [], [⟨6, oidB x, []⟩, ⟨5, [], []⟩]⟩
theorem oid_f11 : scalar_Oid.f 100 [1, 2, 840, 113549, 1, 1, 11] = some (6, oidB 11, [], 0) := by kernel_rfl
theorem oid_f1 : scalar_Oid.f 100 [1, 2, 840, 113549, 1, 1, 1] = some (6, oidB 1, [], 0) := by kernel_rfl

set_option maxHeartbeats 4000000 in
set_option maxRecDepth 100000 in
theorem made_walk (x : Int) (hf : scalar_Oid.f 100 [1, 2, 840, 113549, 1, 1, x] = some (6, oidB x, [], 0)) (w : World) :
 Calls Try.prog 14 #[.int .u32 x] w fun e w' => ∃ v1 v2, e = .returned (.agg #[.int .i64 48, v1, v2]) ∧ NodeR w' w.heap.size w'.heap.size (algT x) v1 v2 ∧ Below w.heap.size w w' := by
 have HF := Lib.hid hf
 clear hf
 go_enter Try.func14, Try.ntmps14
 go_wp2_with (fail)
 have hl2 : ((w.alloc (.cells #[.int .i64 0, .slice none 0 0, .slice none 0 0] 25)).alloc (.cells #[.int .u32 1, .int .u32 2, .int .u32 840, .int .u32 113549, .int .u32 1, .int .u32 1, .int .u32 x] 39)).heap[w.heap.size + 1]? = some (.cells ([1, 2, 840, 113549, 1, 1, x].map (Value.int .u32)).toArray 39 (0, 0)) := by
  have := heap_alloc_new (w.alloc (.cells #[.int .i64 0, .slice none 0 0, .slice none 0 0] 25)) (.cells #[.int .u32 1, .int .u32 2, .int .u32 840, .int .u32 113549, .int .u32 1, .int .u32 1, .int .u32 x] 39)
  simpa using this
 have hb0 : ((w.alloc (.cells #[.int .i64 0, .slice none 0 0, .slice none 0 0] 25)).alloc (.cells #[.int .u32 1, .int .u32 2, .int .u32 840, .int .u32 113549, .int .u32 1, .int .u32 1, .int .u32 x] 39)).heap[w.heap.size]? = some (.cells #[.int .i64 0, .slice none 0 0, .slice none 0 0] 25 (0, 0)) :=
  (Below.heap_alloc _ _ _ (by simp)).trans (heap_alloc_new w _)
 have hB2 : Below w.heap.size w ((w.alloc (.cells #[.int .i64 0, .slice none 0 0, .slice none 0 0] 25)).alloc (.cells #[.int .u32 1, .int .u32 2, .int .u32 840, .int .u32 113549, .int .u32 1, .int .u32 1, .int .u32 x] 39)) := ((Below.refl _ _).alloc (Nat.le_refl _) _).alloc (by simp) _
 generalize (w.alloc (.cells #[.int .i64 0, .slice none 0 0, .slice none 0 0] 25)).alloc (.cells #[.int .u32 1, .int .u32 2, .int .u32 840, .int .u32 113549, .int .u32 1, .int .u32 1, .int .u32 x] 39) = w2 at hl2 hb0 hB2 ⊢
 refine (scalar_Oid.calls 100 (some ⟨w.heap.size + 1, 0, none⟩) 7 [1, 2, 840, 113549, 1, 1, x] 6 (oidB x) [] 0 w2 (C_ints hl2 (by simp)) (by simp) HF.out).mono ?_
 rintro e w3 ⟨v1, v2, rfl, hv1, hv2, hB3⟩
 obtain ⟨A1, c1, rfl⟩ := Kd.R_slice hv1
 obtain ⟨A2, c2, rfl⟩ := Kd.R_slice hv2
 have hb3 := (hB3.block _ (heap_lt hb0)).trans hb0
 have hlt := heap_lt hb3
 have hB := hB2.trans (hB3.mono hB2.size)
 have h0 := NodeR.of (n := ⟨6, oidB x, []⟩) hv1 hv2
 have H0 := Lib.hid h0
 have HLT2 := Lib.hid (And.intro (heap_lt hb0) hB3.size)
 have HB := Lib.hid hB
 have HB3 := Lib.hid hb3
 have a0 := Lib.cell_of_heap hb3 0
 have a1 := Lib.cell_of_heap hb3 1
 have a2 := Lib.cell_of_heap hb3 2
 have f0 := Lib.frozen_of_heap hb3 0
 have f1 := Lib.frozen_of_heap hb3 1
 have f2 := Lib.frozen_of_heap hb3 2
 clear h0 hB hb3 hl2 hb0 hB2 hB3 hv1 hv2
 have holen : (oidB x).length = 9 := rfl
 rw [holen]
 go_wp2
 have z0 : (((w3.setCell ⟨w.heap.size, 0, none⟩ (.int .i64 48)).setCell ⟨w.heap.size, 1, none⟩ (.slice none 0 0)).setCell ⟨w.heap.size, 2, none⟩ (.slice (some ⟨w3.heap.size + 1, 0, none⟩) 2 2)).heap[w.heap.size]? = some (.cells #[.int .i64 48, .slice none 0 0, .slice (some ⟨w3.heap.size + 1, 0, none⟩) 2 2] 25 (0, 0)) :=
  heap_setCell_same _ _ 2 _ _ _ (heap_setCell_same _ _ 1 _ _ _ (heap_setCell_same _ _ 0 _ _ _ HB3.out))
 have zB : Below w.heap.size w (((w3.setCell ⟨w.heap.size, 0, none⟩ (.int .i64 48)).setCell ⟨w.heap.size, 1, none⟩ (.slice none 0 0)).setCell ⟨w.heap.size, 2, none⟩ (.slice (some ⟨w3.heap.size + 1, 0, none⟩) 2 2)) :=
  Below.setCell (Below.setCell (Below.setCell HB.out (p := ⟨w.heap.size, 0, none⟩) (Nat.le_refl _) _) (p := ⟨w.heap.size, 1, none⟩) (Nat.le_refl _) _) (p := ⟨w.heap.size, 2, none⟩) (Nat.le_refl _) _
 have zs : (((w3.setCell ⟨w.heap.size, 0, none⟩ (.int .i64 48)).setCell ⟨w.heap.size, 1, none⟩ (.slice none 0 0)).setCell ⟨w.heap.size, 2, none⟩ (.slice (some ⟨w3.heap.size + 1, 0, none⟩) 2 2)).heap.size = w3.heap.size := by simp
 have zk : ∀ k, k ≠ w.heap.size → (((w3.setCell ⟨w.heap.size, 0, none⟩ (.int .i64 48)).setCell ⟨w.heap.size, 1, none⟩ (.slice none 0 0)).setCell ⟨w.heap.size, 2, none⟩ (.slice (some ⟨w3.heap.size + 1, 0, none⟩) 2 2)).heap[k]? = w3.heap[k]? :=
  fun k hk => (heap_setCell_other _ _ _ _ hk).trans ((heap_setCell_other _ _ _ _ hk).trans (heap_setCell_other _ _ _ _ hk))
 generalize ((w3.setCell ⟨w.heap.size, 0, none⟩ (.int .i64 48)).setCell ⟨w.heap.size, 1, none⟩ (.slice none 0 0)).setCell ⟨w.heap.size, 2, none⟩ (.slice (some ⟨w3.heap.size + 1, 0, none⟩) 2 2) = w4 at z0 zB zs zk ⊢
 have hn := H0.out
 obtain ⟨hq1, hq2⟩ := HLT2.out
 rw [← zs]
 rw [← zs] at z0
 have hr0 : ((w4.alloc (.cells #[.int .i64 6, .slice A1 9 c1, .slice A2 0 c2] 25)).alloc (.cells #[.int .i64 6, .slice A1 9 c1, .slice A2 0 c2, .int .i64 5, .slice none 0 0, .slice none 0 0] 25)).heap[w.heap.size]? = some (.cells #[.int .i64 48, .slice none 0 0, .slice (some ⟨w4.heap.size + 1, 0, none⟩) 2 2] 25 (0, 0)) :=
  (Below.heap_alloc _ _ _ (by simp; omega)).trans ((Below.heap_alloc _ _ _ (by omega)).trans z0)
 have hk0 : ((w4.alloc (.cells #[.int .i64 6, .slice A1 9 c1, .slice A2 0 c2] 25)).alloc (.cells #[.int .i64 6, .slice A1 9 c1, .slice A2 0 c2, .int .i64 5, .slice none 0 0, .slice none 0 0] 25)).heap[w4.heap.size + 1]? = some (.cells [.int .i64 6, .slice A1 9 c1, .slice A2 0 c2, .int .i64 5, .slice none 0 0, .slice none 0 0].toArray 25 (0, 0)) := by
  have := heap_alloc_new (w4.alloc (.cells #[.int .i64 6, .slice A1 9 c1, .slice A2 0 c2] 25)) (.cells #[.int .i64 6, .slice A1 9 c1, .slice A2 0 c2, .int .i64 5, .slice none 0 0, .slice none 0 0] 25)
  simpa using this
 have hBf : Below w4.heap.size w4 ((w4.alloc (.cells #[.int .i64 6, .slice A1 9 c1, .slice A2 0 c2] 25)).alloc (.cells #[.int .i64 6, .slice A1 9 c1, .slice A2 0 c2, .int .i64 5, .slice none 0 0, .slice none 0 0] 25)) := ((Below.refl _ _).alloc (Nat.le_refl _) _).alloc (by simp) _
 have hsf : ((w4.alloc (.cells #[.int .i64 6, .slice A1 9 c1, .slice A2 0 c2] 25)).alloc (.cells #[.int .i64 6, .slice A1 9 c1, .slice A2 0 c2, .int .i64 5, .slice none 0 0, .slice none 0 0] 25)).heap.size = w4.heap.size + 2 := by simp
 generalize (w4.alloc (.cells #[.int .i64 6, .slice A1 9 c1, .slice A2 0 c2] 25)).alloc (.cells #[.int .i64 6, .slice A1 9 c1, .slice A2 0 c2, .int .i64 5, .slice none 0 0, .slice none 0 0] 25) = w5 at hr0 hk0 hBf hsf ⊢
 have b0 := Lib.cell_of_heap hr0 0
 have b1 := Lib.cell_of_heap hr0 1
 have b2 := Lib.cell_of_heap hr0 2
 have hn5 : NodeR w5 w.heap.size w4.heap.size ⟨6, oidB x, []⟩ (.slice A1 9 c1) (.slice A2 0 c2) := by
  refine (NodeR.widen (NodeR.move (w1 := w5) hn (fun k hk1 hk2 => ?_)) (by omega) (by omega))
  rw [hBf.block k (by omega)]
  exact zk k (by omega)
 refine bodyPost_ret (v := .agg #[.int .i64 48, .slice none 0 0, .slice (some ⟨w4.heap.size + 1, 0, none⟩) 2 2]) (by simp [results, Try.results14, go_sem, b0, b1, b2]) rfl ?_
 refine ⟨_, _, rfl, ⟨Kd.R_nil _ _ _ _ _, ?_⟩, zB.trans (hBf.mono (by omega))⟩
 exact R_row (l := [⟨6, oidB x, []⟩, ⟨5, [], []⟩]) hk0 (by omega) (by omega) (Reps_two hn5 (NodeR.nilnil w5 w.heap.size w4.heap.size 5) (by omega) (by omega)) (by simp)

end Go.Proofs.Ytmbgjhkemlliaaa.Tlv
end

/- spki.Seal, walked. -/
section
set_option linter.unusedVariables false
set_option linter.unusedSimpArgs false
namespace Go.Proofs.Ytmbgjhkemlliaaa.Tlv
open Go.RowKit Go.Proofs.YtmbgjhkemlliaaaW.PrintWords Go.Proofs.YtmbgjhkemlliaaaW.PrintLast Go.Proofs.YtmbgjhkemlliaaaW.PrintMore Go.Proofs.Ytmbgjhkemlliaaa.PT

theorem NodeAt.K {w : World} {n : T} {A1 : Option Addr} {c1 : Nat} {A2 : Option Addr} {c2 : Nat} (h : NodeAt w n A1 c1 A2 c2) : k25.K w n [.int .i64 n.f0, .slice A1 n.f1.length c1, .slice A2 n.f2.length c2] := k25_mk w n h.2.1 h.1 h.2.2.2 h.2.2.1
/-- A row of elements that has been laid in block g, as it is read. -/
theorem C_row {w : World} {g : Nat} {l : List T} {cs : List Value} (h : w.heap[g]? = some (.cells cs.toArray 25 (0, 0))) (hr : Reps (k25.K w) 3 l cs) (hl : l.length ≤ 1000000) : k25.C w (some ⟨g, 0, none⟩) l.length l := by
 have ho : w.ownsRow g 25 3 (.slice (some ⟨g, 0, none⟩) l.length l.length) l.length cs :=
  ⟨hr.1, .inr ⟨g, l.length, cs.toArray, rfl, Nat.le_refl _, h, Nat.le_refl _, by simp only [maxLen]; omega, by rw [List.size_toArray]; exact hr.1, by
   rw [show cs.toArray.toList = cs from rfl]
   exact List.take_of_length_le (by rw [hr.1]; exact Nat.le_refl _)⟩⟩
 obtain ⟨A, c, e, hc⟩ := own_reads_row ho hr rfl
 injection e with e1 _ _
 subst e1
 exact hc
theorem KReps_one {w : World} {a : T} {x1 x2 : Value} (h1 : k25.K w a [.int .i64 a.f0, x1, x2]) : Reps (k25.K w) 3 [a] [.int .i64 a.f0, x1, x2] :=
 (Reps.none _ _).snoc (p := a) (c := [.int .i64 a.f0, x1, x2]) h1 rfl
theorem KReps_two {w : World} {a b : T} {x1 x2 y1 y2 : Value} (h1 : k25.K w a [.int .i64 a.f0, x1, x2]) (h2 : k25.K w b [.int .i64 b.f0, y1, y2]) : Reps (k25.K w) 3 [a, b] [.int .i64 a.f0, x1, x2, .int .i64 b.f0, y1, y2] :=
 (KReps_one h1).snoc (p := b) (c := [.int .i64 b.f0, y1, y2]) h2 rfl
theorem KReps_three {w : World} {a b c : T} {x1 x2 y1 y2 z1 z2 : Value} (h1 : k25.K w a [.int .i64 a.f0, x1, x2]) (h2 : k25.K w b [.int .i64 b.f0, y1, y2]) (h3 : k25.K w c [.int .i64 c.f0, z1, z2]) : Reps (k25.K w) 3 [a, b, c] [.int .i64 a.f0, x1, x2, .int .i64 b.f0, y1, y2, .int .i64 c.f0, z1, z2] :=
 (KReps_two h1 h2).snoc (p := c) (c := [.int .i64 c.f0, z1, z2]) h3 rfl

def bitT (l : List Int) : T := ⟨3, 0 :: l, []⟩
def sealT (n : T) (sig : List Int) : T := ⟨48, [], [n, algT 11, bitT sig]⟩
theorem whole_f (l : List Int) (hl : l.length ≤ 1000000) : spki_whole.f l = some (3, 0 :: l, []) := by
 have e1 : wrap64 (8 * (l.length : Int)) = 8 * (l.length : Int) := by unfold wrap64; omega
 have e2 : wrap64 (8 * (l.length : Int) - 8 * (l.length : Int)) = 0 := by unfold wrap64; omega
 unfold spki_whole.f scalar_Bits.f
 rw [e1, if_neg (by omega), e2, if_neg (by omega), if_neg (by omega), if_neg (by omega)]
 have e3 : ([(0 : Int) % 256] : List Int).length + l.length < 140737488355328 := by simp; omega
 rw [Option.bind_some, if_pos e3, Option.bind_some]
 rfl

set_option maxHeartbeats 4000000 in
set_option maxRecDepth 100000 in
theorem seal_walk (n : T) (sig : List Int) (hs : rightT n = true → sizeT n ≤ 1000000) (hsl : sig.length ≤ 1000000) (A1 : Option Addr) (c1 : Nat) (A2 : Option Addr) (c2 : Nat) (As : Option Addr) (cs : Nat) (w : World) (hn : NodeAt w n A1 c1 A2 c2) (hsr : ReadsInt w .u8 As sig.length sig) (hsc : sig.length ≤ cs) :
 Calls Try.prog 7 #[.agg #[.int .i64 n.f0, .slice A1 n.f1.length c1, .slice A2 n.f2.length c2], .slice As sig.length cs] w (WritePost w (sealT n sig)) := by
 have hbox : (w.alloc (.cells #[.int .i64 n.f0, .slice A1 n.f1.length c1, .slice A2 n.f2.length c2] 25)).drew.heap[w.heap.size]? = some (.cells #[.int .i64 n.f0, .slice A1 n.f1.length c1, .slice A2 n.f2.length c2] 25 (0, 0)) := heap_alloc_new w _
 have hB1 : Below w.heap.size w (w.alloc (.cells #[.int .i64 n.f0, .slice A1 n.f1.length c1, .slice A2 n.f2.length c2] 25)).drew := ((Below.refl _ _).alloc (Nat.le_refl _) _).drew
 have hsz1 : (w.alloc (.cells #[.int .i64 n.f0, .slice A1 n.f1.length c1, .slice A2 n.f2.length c2] 25)).drew.heap.size = w.heap.size + 1 := by show (w.alloc _).heap.size = _; simp
 have a0 := Lib.cell_of_heap hbox 0
 have a1 := Lib.cell_of_heap hbox 1
 have a2 := Lib.cell_of_heap hbox 2
 have hrs : rightT (sealT n sig) = true → sizeT (sealT n sig) ≤ 100000000 := by
  intro h
  unfold sealT at h ⊢
  rw [rightT, Bool.and_eq_true] at h
  have h0 := h.2
  rw [rightL, Bool.and_eq_true] at h0
  have h1 := hs h0.1
  have e : holdsB 48 = true := by decide
  have h2 := headLen_pos (sizeL [n, algT 11, bitT sig])
  have h3 : sizeT (algT 11) = 15 := by decide
  have h4 : sizeT (bitT sig) = ((0 :: sig).length : Int) + headLen (((0 :: sig).length : Nat) : Int) := by unfold bitT; rw [sizeT, if_neg (by decide)]
  have h5 := headLen_pos (((0 :: sig).length : Nat) : Int)
  have h6 : (((0 : Int) :: sig).length : Int) = sig.length + 1 := by simp
  have h7 : sizeL [n, algT 11, bitT sig] = sizeT n + (sizeT (algT 11) + (sizeT (bitT sig) + 0)) := by rw [sizeL, sizeL, sizeL, sizeL]
  rw [sizeT, if_pos e]
  omega
 generalize hPP : WritePost w (sealT n sig) = PP
 have hseal : ∀ (w2 w3 : World) (M1 : Option Addr) (m1 : Nat) (M2 : Option Addr) (m2 : Nat), Below w.heap.size w w2 → w2.heap.size = w.heap.size + 1 → w2.heap[w.heap.size]? = some (.cells #[.int .i64 n.f0, .slice A1 n.f1.length c1, .slice A2 n.f2.length c2] 25 (0, 0)) →
  NodeR w3 w2.heap.size w3.heap.size (algT 11) (.slice M1 0 m1) (.slice M2 2 m2) → Below w2.heap.size w2 w3 →
  (w3.cell? ⟨w.heap.size, 0, none⟩ = some (.int .i64 n.f0) ∧ w3.cell? ⟨w.heap.size, 1, none⟩ = some (.slice A1 n.f1.length c1) ∧ w3.cell? ⟨w.heap.size, 2, none⟩ = some (.slice A2 n.f2.length c2)) ∧
  (Kd.int .u8).C w3 As sig.length sig ∧ sig.length ≤ cs ∧ spki_whole.f sig = some (3, 0 :: sig, []) ∧
  (∀ (w4 : World) (W1 : Option Addr) (d1 : Nat) (W2 : Option Addr) (d2 : Nat), (Kd.int .u8).R 5 w4 w3.heap.size (fun _ => True) (.slice W1 (0 :: sig).length d1) (0 :: sig) → k25.R 25 w4 w3.heap.size (fun k => some k ≠ (Value.slice W1 (0 :: sig).length d1).ownBlock) (.slice W2 ([] : List T).length d2) [] → Below w3.heap.size w3 w4 →
   (w4.cell? ⟨w.heap.size, 0, none⟩ = some (.int .i64 n.f0) ∧ w4.cell? ⟨w.heap.size, 1, none⟩ = some (.slice A1 n.f1.length c1) ∧ w4.cell? ⟨w.heap.size, 2, none⟩ = some (.slice A2 n.f2.length c2)) ∧
   ((w4.alloc (.cells #[.int .i64 n.f0, .slice A1 n.f1.length c1, .slice A2 n.f2.length c2, .int .i64 48, .slice M1 0 m1, .slice M2 2 m2, .int .i64 3, .slice W1 (sig.length + 1) d1, .slice W2 0 d2] 25)).cell? ⟨w.heap.size, 0, none⟩ = some (.int .i64 n.f0) ∧ (w4.alloc (.cells #[.int .i64 n.f0, .slice A1 n.f1.length c1, .slice A2 n.f2.length c2, .int .i64 48, .slice M1 0 m1, .slice M2 2 m2, .int .i64 3, .slice W1 (sig.length + 1) d1, .slice W2 0 d2] 25)).cell? ⟨w.heap.size, 1, none⟩ = some (.slice A1 n.f1.length c1) ∧ (w4.alloc (.cells #[.int .i64 n.f0, .slice A1 n.f1.length c1, .slice A2 n.f2.length c2, .int .i64 48, .slice M1 0 m1, .slice M2 2 m2, .int .i64 3, .slice W1 (sig.length + 1) d1, .slice W2 0 d2] 25)).cell? ⟨w.heap.size, 2, none⟩ = some (.slice A2 n.f2.length c2)) ∧
   Calls Try.prog 13 #[.agg #[.int .i64 48, .slice none 0 0, .slice (some ⟨w4.heap.size, 0, none⟩) 3 3]] (w4.alloc (.cells #[.int .i64 n.f0, .slice A1 n.f1.length c1, .slice A2 n.f2.length c2, .int .i64 48, .slice M1 0 m1, .slice M2 2 m2, .int .i64 3, .slice W1 (sig.length + 1) d1, .slice W2 0 d2] 25)) fun e w5 => ∃ va vb, e = .returned (.tuple #[va, vb]) ∧ PP (.returned (.tuple #[va, vb])) w5 ∧
    (w5.cell? ⟨w.heap.size, 0, none⟩ = some (.int .i64 n.f0) ∧ w5.cell? ⟨w.heap.size, 1, none⟩ = some (.slice A1 n.f1.length c1) ∧ w5.cell? ⟨w.heap.size, 2, none⟩ = some (.slice A2 n.f2.length c2))) := by
  intro w2 w3 M1 m1 M2 m2 hB2 hs2 h2 ho3 hB3
  have h3 := (hB3.block _ (heap_lt h2)).trans h2
  have hBw3 : Below w.heap.size w w3 := hB2.trans (hB3.mono (by omega))
  refine ⟨⟨Lib.cell_of_heap h3 0, Lib.cell_of_heap h3 1, Lib.cell_of_heap h3 2⟩, Kd.C_below (C_of_reads hsr rfl) hBw3, hsc, whole_f sig hsl, ?_⟩
  intro w4 W1 d1 W2 d2 hv1 hv2 hB4
  have h4 := (hB4.block _ (heap_lt h3)).trans h3
  have hBw4 : Below w.heap.size w w4 := hBw3.trans (hB4.mono hBw3.size)
  have hn4 := hn.below hBw4
  have hm4 := (ho3.below hB4).at (n := algT 11)
  have hw4 := (NodeR.of (n := bitT sig) hv1 hv2).at
  generalize hob : (Obj.cells #[.int .i64 n.f0, .slice A1 n.f1.length c1, .slice A2 n.f2.length c2, .int .i64 48, .slice M1 0 m1, .slice M2 2 m2, .int .i64 3, .slice W1 (sig.length + 1) d1, .slice W2 0 d2] 25 : Obj) = ob
  have h5 := (Below.heap_alloc w4 ob _ (heap_lt h4)).trans h4
  have h6 : (w4.alloc ob).heap[w4.heap.size]? = some ob := heap_alloc_new w4 _
  have hBB : Below w4.heap.size w4 (w4.alloc ob) := (Below.refl _ _).alloc (Nat.le_refl _) _
  refine ⟨⟨Lib.cell_of_heap h4 0, Lib.cell_of_heap h4 1, Lib.cell_of_heap h4 2⟩, ⟨Lib.cell_of_heap h5 0, Lib.cell_of_heap h5 1, Lib.cell_of_heap h5 2⟩, ?_⟩
  have hk : k25.C (w4.alloc ob) (some ⟨w4.heap.size, 0, none⟩) 3 [n, algT 11, bitT sig] :=
   C_row (cs := [.int .i64 n.f0, .slice A1 n.f1.length c1, .slice A2 n.f2.length c2, .int .i64 48, .slice M1 0 m1, .slice M2 2 m2, .int .i64 3, .slice W1 (sig.length + 1) d1, .slice W2 0 d2]) (by rw [h6, ← hob]) (KReps_three (NodeAt.K (n := n) (hn4.below hBB)) (NodeAt.K (n := algT 11) (hm4.below hBB)) (NodeAt.K (n := bitT sig) (hw4.below hBB))) (by simp)
  have hnode : NodeAt (w4.alloc ob) (sealT n sig) none 0 (some ⟨w4.heap.size, 0, none⟩) 3 := ⟨C_nil _ _ _, Nat.le_refl _, hk, Nat.le_refl _⟩
  refine (write_walk (sealT n sig) hrs none 0 (some ⟨w4.heap.size, 0, none⟩) 3 (w4.alloc ob) hnode).mono ?_
  intro e w5 hp
  have hBw5 : Below w.heap.size w (w4.alloc ob) := hBw4.trans (hBB.mono hBw4.size)
  have hlt5 := heap_lt h5
  unfold WritePost at hp
  have hE : ∃ va vb, e = .returned (.tuple #[va, vb]) ∧ WritePost w (sealT n sig) (.returned (.tuple #[va, vb])) w5 ∧ Below (w4.alloc ob).heap.size (w4.alloc ob) w5 := by
   unfold WritePost
   cases hq : writeP (sealT n sig) with
   | err x =>
    rw [hq] at hp
    obtain ⟨rfl, hb5⟩ := hp
    exact ⟨_, _, rfl, ⟨rfl, hBw5.trans (hb5.mono hBw5.size)⟩, hb5⟩
   | ok l =>
    rw [hq] at hp
    obtain ⟨A, c, rfl, ho5, hb5⟩ := hp
    exact ⟨_, _, rfl, ⟨A, c, rfl, Kd.R_lower ho5 hBw5.size, hBw5.trans (hb5.mono hBw5.size)⟩, hb5⟩
  obtain ⟨va, vb, rfl, hw, hb5⟩ := hE
  have h7 := (hb5.block _ hlt5).trans h5
  exact ⟨va, vb, rfl, hPP ▸ hw, Lib.cell_of_heap h7 0, Lib.cell_of_heap h7 1, Lib.cell_of_heap h7 2⟩
 have HSEAL := Lib.hid (fun w3 M1 m1 M2 m2 h3 hb3 => hseal _ w3 M1 m1 M2 m2 hB1 hsz1 hbox h3 hb3)
 clear hseal hPP hrs hbox hB1 hsz1 hn hsr hs hsl hsc
 go_enter Try.func7, Try.ntmps7
 go_wp2
 refine start_ (n := 11) (S := fun w' => w'.cell? ⟨w.heap.size, 0, none⟩ = some (.int .i64 n.f0) ∧ w'.cell? ⟨w.heap.size, 1, none⟩ = some (.slice A1 n.f1.length c1) ∧ w'.cell? ⟨w.heap.size, 2, none⟩ = some (.slice A2 n.f2.length c2)) (ds := []) #[false, false, false, false, false, false, false, false, false, false, false] (by kernel_rfl) rfl rfl ⟨a0, a1, a2⟩ (fun hHeld => ?_)
 refine pure_ (i := 2) (N := some 8) (v := ?_) (a' := ?_) #[false, false, true, false, false, false, false, false, false, false, false] rfl rfl (by kernel_rfl) (fun _ _ _ h => h) (Or.inl ⟨by rfl, ?_⟩) ?_ ?_
 rotate_left
 ·intro w'
  go_simp
  with_reducible rfl
 rotate_left
 ·simp only [Act.put, List.setIfInBounds_toArray, List.set_cons_zero, List.set_cons_succ, i64_w, i32_w]
  rfl
 refine take_ (i := 0) (N := some 6) (v := ?_) (a' := ?_) #[true, false, true, false, false, false, false, false, false, false, false] rfl rfl (by kernel_rfl) (fun _ _ _ h => h) (Or.inl ⟨by rfl, ?_⟩) hHeld ?_ ?_
 rotate_left
 ·rintro w' ⟨s0, s1, s2⟩
  go_simp
  with_reducible rfl
 rotate_left
 ·simp only [Act.put, List.setIfInBounds_toArray, List.set_cons_zero, List.set_cons_succ, i64_w, i32_w]
  rfl
 refine one_ (i := 1) (N := some 7) #[true, true, true, false, false, false, false, false, false, false, false] rfl rfl (by kernel_rfl) (by decide) (fun K hK => ?_)
 refine goes_ Try.func14 (by kernel_rfl) rfl #[.int .u32 11] (by rfl) rfl rfl (by (try simp only [List.map_toArray, List.map_cons, List.map_nil]); first | done | rfl) ?_
 refine (made_walk 11 oid_f11 _).mono ?_
 rintro e w3 ⟨v1, v2, rfl, ho3, hb3⟩
 refine ⟨_, rfl, ?_⟩
 obtain ⟨M1, m1, M2, m2, rfl, rfl, hm⟩ := ho3.form
 have HF := Lib.hid (HSEAL.out w3 M1 m1 M2 m2 ho3 hb3)
 clear ho3 hb3 hm
 refine hK.out _ _ HF.out.1 (fun hHeld => ?_)
 clear hK K
 refine norm_ (a' := ?_) ?_ ?_
 rotate_left
 ·show Act.put _ (some 7) _ = _
  simp only [Act.put, List.setIfInBounds_toArray, List.set_cons_zero, List.set_cons_succ, i64_w, i32_w]
  rfl
 refine one_ (i := 3) (N := some 9) #[true, true, true, true, false, false, false, false, false, false, false] rfl rfl (by kernel_rfl) (by decide) (fun K hK => ?_)
 refine goes_ Try.func15 (by kernel_rfl) rfl #[.slice As sig.length cs] (by rfl) rfl rfl (by (try simp only [List.map_toArray, List.map_cons, List.map_nil]); first | done | rfl) ?_
 refine (spki_whole.calls As cs sig 3 (0 :: sig) [] w3 HF.out.2.1 HF.out.2.2.1 HF.out.2.2.2.1).mono ?_
 rintro e w4 ⟨v1, v2, rfl, hv1, hv2, hb4⟩
 refine ⟨_, rfl, ?_⟩
 obtain ⟨W1, d1, rfl⟩ := Kd.R_slice hv1
 obtain ⟨W2, d2, rfl⟩ := Kd.R_slice hv2
 have HG := Lib.hid (HF.out.2.2.2.2 w4 W1 d1 W2 d2 hv1 hv2 hb4)
 clear hv1 hv2 hb4
 refine hK.out _ _ HG.out.1 (fun hHeld => ?_)
 clear hK K
 refine norm_ (a' := ?_) ?_ ?_
 rotate_left
 ·show Act.put _ (some 9) _ = _
  simp only [Act.put, List.setIfInBounds_toArray, List.set_cons_zero, List.set_cons_succ, i64_w, i32_w]
  rfl
 refine one_ (i := 4) (N := some 10) #[true, true, true, true, true, false, false, false, false, false, false] rfl rfl (by kernel_rfl) (by decide) (fun K hK => ?_)
 refine event_step (by rfl) (v := .slice (some ⟨w4.heap.size, 0, none⟩) 3 3) (w1 := w4.alloc (.cells #[.int .i64 n.f0, .slice A1 n.f1.length c1, .slice A2 n.f2.length c2, .int .i64 48, .slice M1 0 m1, .slice M2 2 m2, .int .i64 3, .slice W1 (sig.length + 1) d1, .slice W2 0 d2] 25)) (by go_simp; try rfl) ?_
 refine hK.out _ _ HG.out.2.1 (fun hHeld => ?_)
 clear hK K
 refine norm_ (a' := ?_) ?_ ?_
 rotate_left
 ·show Act.put _ (some 10) _ = _
  simp only [Act.put, List.setIfInBounds_toArray, List.set_cons_zero, List.set_cons_succ, i64_w, i32_w]
  rfl
 refine pure_ (i := 5) (N := some 11) (v := ?_) (a' := ?_) #[true, true, true, true, true, true, false, false, false, false, false] rfl rfl (by kernel_rfl) (fun _ _ _ h => h) (Or.inl ⟨by rfl, ?_⟩) ?_ ?_
 rotate_left
 ·intro w'
  go_simp
  with_reducible rfl
 rotate_left
 ·simp only [Act.put, List.setIfInBounds_toArray, List.set_cons_zero, List.set_cons_succ, i64_w, i32_w]
  rfl
 refine one_ (i := 6) (N := some 12) #[true, true, true, true, true, true, true, false, false, false, false] rfl rfl (by kernel_rfl) (by decide) (fun K hK => ?_)
 refine goes_ Try.func13 (by kernel_rfl) rfl #[.agg #[.int .i64 48, .slice none 0 0, .slice (some ⟨w4.heap.size, 0, none⟩) 3 3]] (by rfl) rfl rfl (by (try simp only [List.map_toArray, List.map_cons, List.map_nil]); first | done | rfl) ?_
 refine (HG.out.2.2).mono ?_
 rintro e w5 ⟨va, vb, rfl, hpo, hs5⟩
 refine ⟨_, rfl, ?_⟩
 refine hK.out _ _ hs5 (fun hHeld => ?_)
 clear hK K
 refine norm_ (a' := ?_) ?_ ?_
 rotate_left
 ·show Act.put _ (some 12) _ = _
  simp only [Act.put, List.setIfInBounds_toArray, List.set_cons_zero, List.set_cons_succ, i64_w, i32_w]
  rfl
 refine pure_ (i := 7) (N := some 13) (v := ?_) (a' := ?_) #[true, true, true, true, true, true, true, true, false, false, false] rfl rfl (by kernel_rfl) (fun _ _ _ h => h) (Or.inl ⟨by rfl, ?_⟩) ?_ ?_
 rotate_left
 ·intro w'
  go_simp
  with_reducible rfl
 rotate_left
 ·simp only [Act.put, List.setIfInBounds_toArray, List.set_cons_zero, List.set_cons_succ, i64_w, i32_w]
  rfl
 refine pure_ (i := 8) (N := some 14) (v := ?_) (a' := ?_) #[true, true, true, true, true, true, true, true, true, false, false] rfl rfl (by kernel_rfl) (fun _ _ _ h => h) (Or.inl ⟨by rfl, ?_⟩) ?_ ?_
 rotate_left
 ·intro w'
  go_simp
  with_reducible rfl
 rotate_left
 ·simp only [Act.put, List.setIfInBounds_toArray, List.set_cons_zero, List.set_cons_succ, i64_w, i32_w]
  rfl
 refine pure_ (i := 9) (N := some 4) (v := ?_) (a' := ?_) #[true, true, true, true, true, true, true, true, true, true, false] rfl rfl (by kernel_rfl) (fun _ _ _ h => h) (Or.inl ⟨by rfl, ?_⟩) ?_ ?_
 rotate_left
 ·intro w'
  go_simp
  with_reducible rfl
 rotate_left
 ·simp only [Act.put, List.setIfInBounds_toArray, List.set_cons_zero, List.set_cons_succ, i64_w, i32_w]
  rfl
 refine pure_ (i := 10) (N := some 5) (v := ?_) (a' := ?_) #[true, true, true, true, true, true, true, true, true, true, true] rfl rfl (by kernel_rfl) (fun _ _ _ h => h) (Or.inl ⟨by rfl, ?_⟩) ?_ ?_
 rotate_left
 ·intro w'
  go_simp
  with_reducible rfl
 rotate_left
 ·simp only [Act.put, List.setIfInBounds_toArray, List.set_cons_zero, List.set_cons_succ, i64_w, i32_w]
  rfl
 refine done_ (by kernel_rfl) ?_
 go_wp2
 exact hpo

end Go.Proofs.Ytmbgjhkemlliaaa.Tlv
end

/- The machine side: functions as plain Lean functions, and that the calls come to what these say; written by a program of this session (wip/tools/inc.py over the kit's printer). -/
section
namespace Go.Proofs.Ytmbgjhkemlliaaa.PT
open Go.RowKit Go.Proofs.YtmbgjhkemlliaaaW.PrintWords Go.Proofs.YtmbgjhkemlliaaaW.PrintLast Go.Proofs.YtmbgjhkemlliaaaW.PrintMore
attribute [local go_sem] max2_int min2_int max_two min_two max_three min_three max_four min_four   -- for this text's walks alone
set_option linter.unusedVariables false
set_option linter.unusedSimpArgs false

/-! ### bytes_Equal: function 40 -/
def bytes_Equal.f (l0 : List Int) (l1 : List Int) : Option (Bool) := some ((strOfNums l0).toList == (strOfNums l1).toList)
set_option maxHeartbeats 8000000 in
set_option maxRecDepth 100000 in
theorem bytes_Equal.calls (A0 : Option Addr) (c0 : Nat) (l0 : List Int) (A1 : Option Addr) (c1 : Nat) (l1 : List Int) (r : Bool) (w : World) (hr0 : Kd.C (Kd.int .u8) w A0 l0.length l0) (hc0 : l0.length ≤ c0) (hr1 : Kd.C (Kd.int .u8) w A1 l1.length l1) (hc1 : l1.length ≤ c1) (h : bytes_Equal.f l0 l1 = some r) :
 Calls Try.prog 40 #[.slice A0 l0.length c0, .slice A1 l1.length c1] w fun e w' => e = .returned (.bool r) ∧ Drawn0 w w' := by
 have HR0 := Aside0.mk hr0
 have HC0 := Aside0.mk hc0
 clear hr0 hc0
 have HR1 := Aside0.mk hr1
 have HC1 := Aside0.mk hc1
 clear hr1 hc1
 have H : (some ((strOfNums l0).toList == (strOfNums l1).toList)) = some r := h
 clear h
 obtain rfl := Option.some.inj H
 have hcv3 := Kd.C_string (P := Try.prog) (A := A0) (c := c0) Try.underlying22 Try.underlying5 Try.underlying9 HR0.out
 have hcv4 := Kd.C_string (P := Try.prog) (A := A1) (c := c1) Try.underlying22 Try.underlying5 Try.underlying9 HR1.out
 go_enter Try.func40, Try.ntmps40
 go_wp2
 go_ret
 exact ⟨by first | rfl | (simp; done) | (simp [*]; done), by repeat (first | exact Drawn0.refl _ | apply Drawn0.step)⟩

end Go.Proofs.Ytmbgjhkemlliaaa.PT
end

/- The machine side: functions as plain Lean functions, and that the calls come to what these say; written by a program of this session (wip/tools/inc.py over the kit's printer). -/
section
namespace Go.Proofs.Ytmbgjhkemlliaaa.PT
open Go.RowKit Go.Proofs.YtmbgjhkemlliaaaW.PrintWords Go.Proofs.YtmbgjhkemlliaaaW.PrintLast Go.Proofs.YtmbgjhkemlliaaaW.PrintMore
attribute [local go_sem] max2_int min2_int max_two min_two max_three min_three max_four min_four   -- for this text's walks alone
set_option linter.unusedVariables false
set_option linter.unusedSimpArgs false

/-! ### scalar_same: function 55 -/
def scalar_same.f (a0_0 : Int) (l0_1 : List Int) (l0_2 : List (S25)) (a1_0 : Int) (l1_1 : List Int) (l1_2 : List (S25)) : Option (Bool) := if a0_0 = a1_0 then ((bytes_Equal.f l0_1 l1_1).bind fun t318 => (if t318 = true then (some ((wrap64 ((l0_2.length : Int) + (l1_2.length : Int))) == 0)) else (some false))) else (some false)
set_option maxHeartbeats 8000000 in
set_option maxRecDepth 100000 in
theorem scalar_same.calls (a0_0 : Int) (A0_1 : Option Addr) (c0_1 : Nat) (l0_1 : List Int) (A0_2 : Option Addr) (c0_2 : Nat) (l0_2 : List (S25)) (a1_0 : Int) (A1_1 : Option Addr) (c1_1 : Nat) (l1_1 : List Int) (A1_2 : Option Addr) (c1_2 : Nat) (l1_2 : List (S25)) (r : Bool) (w : World) (hr0_1 : Kd.C (Kd.int .u8) w A0_1 l0_1.length l0_1) (hc0_1 : l0_1.length ≤ c0_1) (hr0_2 : Kd.C k25 w A0_2 l0_2.length l0_2) (hc0_2 : l0_2.length ≤ c0_2) (hr1_1 : Kd.C (Kd.int .u8) w A1_1 l1_1.length l1_1) (hc1_1 : l1_1.length ≤ c1_1) (hr1_2 : Kd.C k25 w A1_2 l1_2.length l1_2) (hc1_2 : l1_2.length ≤ c1_2) (h : scalar_same.f a0_0 l0_1 l0_2 a1_0 l1_1 l1_2 = some r) :
 Calls Try.prog 55 #[.agg #[.int .i64 a0_0, .slice A0_1 l0_1.length c0_1, .slice A0_2 l0_2.length c0_2], .agg #[.int .i64 a1_0, .slice A1_1 l1_1.length c1_1, .slice A1_2 l1_2.length c1_2]] w fun e w' => e = .returned (.bool r) ∧ Below w.heap.size w w' := by
 have hu25 := Try.underlying25
 have HR0_1 := Aside0.mk hr0_1
 have HC0_1 := Aside0.mk hc0_1
 clear hr0_1 hc0_1
 have HR0_2 := Aside0.mk hr0_2
 have HC0_2 := Aside0.mk hc0_2
 clear hr0_2 hc0_2
 have HR1_1 := Aside0.mk hr1_1
 have HC1_1 := Aside0.mk hc1_1
 clear hr1_1 hc1_1
 have HR1_2 := Aside0.mk hr1_2
 have HC1_2 := Aside0.mk hc1_2
 clear hr1_2 hc1_2
 have HB := Aside0.mk (Below.refl w.heap.size w)
 have H : (if a0_0 = a1_0 then ((bytes_Equal.f l0_1 l1_1).bind fun t318 => (if t318 = true then (some ((wrap64 ((l0_2.length : Int) + (l1_2.length : Int))) == 0)) else (some false))) else (some false)) = some r := h
 clear h
 by_cases c3 : a0_0 = a1_0
 ·rw [if_pos c3] at H
  have c3b0 : (a0_0 == a1_0) = true := beq_iff_eq.mpr c3
  have c3b1 : (a0_0 != a1_0) = false := bne_eq_false_iff_eq.mpr c3
  clear c3
  replace H := Option.bind_eq_some_iff.mp H
  obtain ⟨t318, A40, H⟩ := H
  replace H : (if t318 = true then (some ((wrap64 ((l0_2.length : Int) + (l1_2.length : Int))) == 0)) else (some false)) = some r := H
  have A4 := Aside0.mk A40
  clear A40
  by_cases c5 : t318 = true
  ·subst c5
   have H1 : (some ((wrap64 ((l0_2.length : Int) + (l1_2.length : Int))) == 0)) = some r := by rw [if_pos rfl] at H; exact H
   clear H
   have H := H1
   clear H1
   obtain rfl := Option.some.inj H
   go_enter Try.func55, Try.ntmps55
   go_wp2_with (first | ((with_reducible refine gate_dst (N := 2) rfl ?_); (try (refine gate_guard (by rfl) ?_; dsimp only)); refine box_event ?hg (N := 2) ?hd (cs := #[.int .i64 a0_0, .slice A0_1 l0_1.length c0_1, .slice A0_2 l0_2.length c0_2]) (t := 25) ?hr ?_; (case hd => rfl); (case hg => rfl); (case hr => first | (go_simp; done) | (go_simp; rfl)); intro gb316 hg w6 hbox hb; have n0_ := Aside0.mk (below_step (by repeat (first | (with_reducible first | exact HB.out | apply below_alloc | apply pw_below_drewN | apply below_drew1) | exact HB.out)) hb); have n1_ := Aside0.mk (hbox); have n2_ := Aside0.mk ((by rw [hg]; exact (below_size (by repeat (first | (with_reducible first | exact HB.out | apply below_alloc | apply pw_below_drewN | apply below_drew1) | exact HB.out))) : w.heap.size ≤ gb316)); have n3_ := Aside0.mk ((by rw [hg]; exact (below_size (by repeat (first | (with_reducible first | exact HB.out | apply below_alloc | apply pw_below_drewN | apply below_drew1) | exact HB.out))) : w.heap.size ≤ gb316)); clear HB; have HB := n0_; have BK316 := n1_; have GW316 := n2_; have GE316 := n3_; clear n0_ n1_ n2_ n3_; clear hb hbox hg) | ((with_reducible refine gate_dst (N := 3) rfl ?_); (try (refine gate_guard (by rfl) ?_; dsimp only)); refine box_event ?hg (N := 3) ?hd (cs := #[.int .i64 a1_0, .slice A1_1 l1_1.length c1_1, .slice A1_2 l1_2.length c1_2]) (t := 25) ?hr ?_; (case hd => rfl); (case hg => rfl); (case hr => first | (go_simp; done) | (go_simp; rfl)); intro gb317 hg w7 hbox hb; have n0_ := Aside0.mk (blk_below (g := gb316) (o := .cells #[.int .i64 a0_0, .slice A0_1 l0_1.length c0_1, .slice A0_2 l0_2.length c0_2] 25 (0, 0)) (by (with_reducible repeat (first | refine blk_drewN ?_ _ | refine blk_drew ?_ | refine blk_alloc ?_ _)); exact BK316.out) hb); have n1_ := Aside0.mk (below_step (by repeat (first | (with_reducible first | exact HB.out | apply below_alloc | apply pw_below_drewN | apply below_drew1 | refine below_set ?_ GE316.out) | exact HB.out)) hb); have n2_ := Aside0.mk (hbox); have n3_ := Aside0.mk ((by rw [hg]; exact (below_size (by repeat (first | (with_reducible first | exact HB.out | apply below_alloc | apply pw_below_drewN | apply below_drew1 | refine below_set ?_ GE316.out) | exact HB.out))) : w.heap.size ≤ gb317)); have n4_ := Aside0.mk ((by rw [hg]; exact (below_size (by repeat (first | (with_reducible first | exact HB.out | apply below_alloc | apply pw_below_drewN | apply below_drew1 | refine below_set ?_ GE316.out) | exact HB.out))) : w.heap.size ≤ gb317)); have n5_ := Aside0.mk ((by rw [hg]; exact Nat.ne_of_lt (blk_lt (g := gb316) (o := .cells #[.int .i64 a0_0, .slice A0_1 l0_1.length c0_1, .slice A0_2 l0_2.length c0_2] 25 (0, 0)) (by (with_reducible repeat (first | refine blk_drewN ?_ _ | refine blk_drew ?_ | refine blk_alloc ?_ _)); exact BK316.out)) : gb316 ≠ gb317)); have n6_ := Aside0.mk ((by rw [hg]; exact Nat.ne_of_gt (blk_lt (g := gb316) (o := .cells #[.int .i64 a0_0, .slice A0_1 l0_1.length c0_1, .slice A0_2 l0_2.length c0_2] 25 (0, 0)) (by (with_reducible repeat (first | refine blk_drewN ?_ _ | refine blk_drew ?_ | refine blk_alloc ?_ _)); exact BK316.out)) : gb317 ≠ gb316)); clear BK316; clear HB; have BK316 := n0_; have HB := n1_; have BK317 := n2_; have GW317 := n3_; have GE317 := n4_; have NB316_317 := n5_; have NB317_316 := n6_; clear n0_ n1_ n2_ n3_ n4_ n5_ n6_; clear hb hbox hg; have hnb8 := NB316_317.out; have hnc8 := NB317_316.out; have hcz9_0 : w7.cell? ⟨gb316, 0, none⟩ = some (.int .i64 a0_0) := (blk_cell BK316.out 0).trans rfl; have hcz9_1 : w7.cell? ⟨gb316, 1, none⟩ = some (.slice A0_1 l0_1.length c0_1) := (blk_cell BK316.out 1).trans rfl; have hcz9_2 : w7.cell? ⟨gb316, 2, none⟩ = some (.slice A0_2 l0_2.length c0_2) := (blk_cell BK316.out 2).trans rfl; have hfz9_0 := blk_frozen BK316.out 0; have hfz9_1 := blk_frozen BK316.out 1; have hfz9_2 := blk_frozen BK316.out 2; have hcz10_0 : w7.cell? ⟨gb317, 0, none⟩ = some (.int .i64 a1_0) := (blk_cell BK317.out 0).trans rfl; have hcz10_1 : w7.cell? ⟨gb317, 1, none⟩ = some (.slice A1_1 l1_1.length c1_1) := (blk_cell BK317.out 1).trans rfl; have hcz10_2 : w7.cell? ⟨gb317, 2, none⟩ = some (.slice A1_2 l1_2.length c1_2) := (blk_cell BK317.out 2).trans rfl; have hfz10_0 := blk_frozen BK317.out 0; have hfz10_1 := blk_frozen BK317.out 1; have hfz10_2 := blk_frozen BK317.out 2) | (go_at_call 40; (with_reducible refine (bytes_Equal.calls _ _ l0_1 _ _ l1_1 true _ ?side1 ?side2 ?side3 ?side4 A4.out).mono ?_); (case side1 => repeat (first | exact (Kd.C_below HR0_1.out HB.out) | (with_reducible refine Kd.C_alloc ?_ _) | (with_reducible refine Kd.C_drewN ?_ _) | (with_reducible refine Kd.C_drew ?_))); (case side2 => exact HC0_1.out); (case side3 => repeat (first | exact (Kd.C_below HR1_1.out HB.out) | (with_reducible refine Kd.C_alloc ?_ _) | (with_reducible refine Kd.C_drewN ?_ _) | (with_reducible refine Kd.C_drew ?_))); (case side4 => exact HC1_1.out); rintro e w' ⟨rfl, ⟨nd, rfl⟩⟩))
   go_ret
   exact ⟨by first | rfl | (simp [errW_none, errW_some] <;> rfl) | (simp [*, errW_none, errW_some] <;> rfl), by repeat (first | (with_reducible first | exact HB.out | apply below_alloc | apply pw_below_drewN | apply below_drew1 | refine below_set ?_ GE316.out | refine below_set ?_ GE317.out) | exact HB.out)⟩
  ·replace c5 := Bool.eq_false_iff.mpr c5
   subst c5
   have H1 : (some false) = some r := by rw [if_neg (show ¬ (false = true) by decide)] at H; exact H
   clear H
   have H := H1
   clear H1
   obtain rfl := Option.some.inj H
   go_enter Try.func55, Try.ntmps55
   go_wp2_with (first | ((with_reducible refine gate_dst (N := 2) rfl ?_); (try (refine gate_guard (by rfl) ?_; dsimp only)); refine box_event ?hg (N := 2) ?hd (cs := #[.int .i64 a0_0, .slice A0_1 l0_1.length c0_1, .slice A0_2 l0_2.length c0_2]) (t := 25) ?hr ?_; (case hd => rfl); (case hg => rfl); (case hr => first | (go_simp; done) | (go_simp; rfl)); intro gb316 hg w11 hbox hb; have n0_ := Aside0.mk (below_step (by repeat (first | (with_reducible first | exact HB.out | apply below_alloc | apply pw_below_drewN | apply below_drew1) | exact HB.out)) hb); have n1_ := Aside0.mk (hbox); have n2_ := Aside0.mk ((by rw [hg]; exact (below_size (by repeat (first | (with_reducible first | exact HB.out | apply below_alloc | apply pw_below_drewN | apply below_drew1) | exact HB.out))) : w.heap.size ≤ gb316)); have n3_ := Aside0.mk ((by rw [hg]; exact (below_size (by repeat (first | (with_reducible first | exact HB.out | apply below_alloc | apply pw_below_drewN | apply below_drew1) | exact HB.out))) : w.heap.size ≤ gb316)); clear HB; have HB := n0_; have BK316 := n1_; have GW316 := n2_; have GE316 := n3_; clear n0_ n1_ n2_ n3_; clear hb hbox hg) | ((with_reducible refine gate_dst (N := 3) rfl ?_); (try (refine gate_guard (by rfl) ?_; dsimp only)); refine box_event ?hg (N := 3) ?hd (cs := #[.int .i64 a1_0, .slice A1_1 l1_1.length c1_1, .slice A1_2 l1_2.length c1_2]) (t := 25) ?hr ?_; (case hd => rfl); (case hg => rfl); (case hr => first | (go_simp; done) | (go_simp; rfl)); intro gb317 hg w12 hbox hb; have n0_ := Aside0.mk (blk_below (g := gb316) (o := .cells #[.int .i64 a0_0, .slice A0_1 l0_1.length c0_1, .slice A0_2 l0_2.length c0_2] 25 (0, 0)) (by (with_reducible repeat (first | refine blk_drewN ?_ _ | refine blk_drew ?_ | refine blk_alloc ?_ _)); exact BK316.out) hb); have n1_ := Aside0.mk (below_step (by repeat (first | (with_reducible first | exact HB.out | apply below_alloc | apply pw_below_drewN | apply below_drew1 | refine below_set ?_ GE316.out) | exact HB.out)) hb); have n2_ := Aside0.mk (hbox); have n3_ := Aside0.mk ((by rw [hg]; exact (below_size (by repeat (first | (with_reducible first | exact HB.out | apply below_alloc | apply pw_below_drewN | apply below_drew1 | refine below_set ?_ GE316.out) | exact HB.out))) : w.heap.size ≤ gb317)); have n4_ := Aside0.mk ((by rw [hg]; exact (below_size (by repeat (first | (with_reducible first | exact HB.out | apply below_alloc | apply pw_below_drewN | apply below_drew1 | refine below_set ?_ GE316.out) | exact HB.out))) : w.heap.size ≤ gb317)); have n5_ := Aside0.mk ((by rw [hg]; exact Nat.ne_of_lt (blk_lt (g := gb316) (o := .cells #[.int .i64 a0_0, .slice A0_1 l0_1.length c0_1, .slice A0_2 l0_2.length c0_2] 25 (0, 0)) (by (with_reducible repeat (first | refine blk_drewN ?_ _ | refine blk_drew ?_ | refine blk_alloc ?_ _)); exact BK316.out)) : gb316 ≠ gb317)); have n6_ := Aside0.mk ((by rw [hg]; exact Nat.ne_of_gt (blk_lt (g := gb316) (o := .cells #[.int .i64 a0_0, .slice A0_1 l0_1.length c0_1, .slice A0_2 l0_2.length c0_2] 25 (0, 0)) (by (with_reducible repeat (first | refine blk_drewN ?_ _ | refine blk_drew ?_ | refine blk_alloc ?_ _)); exact BK316.out)) : gb317 ≠ gb316)); clear BK316; clear HB; have BK316 := n0_; have HB := n1_; have BK317 := n2_; have GW317 := n3_; have GE317 := n4_; have NB316_317 := n5_; have NB317_316 := n6_; clear n0_ n1_ n2_ n3_ n4_ n5_ n6_; clear hb hbox hg; have hnb13 := NB316_317.out; have hnc13 := NB317_316.out; have hcz14_0 : w12.cell? ⟨gb316, 0, none⟩ = some (.int .i64 a0_0) := (blk_cell BK316.out 0).trans rfl; have hcz14_1 : w12.cell? ⟨gb316, 1, none⟩ = some (.slice A0_1 l0_1.length c0_1) := (blk_cell BK316.out 1).trans rfl; have hcz14_2 : w12.cell? ⟨gb316, 2, none⟩ = some (.slice A0_2 l0_2.length c0_2) := (blk_cell BK316.out 2).trans rfl; have hfz14_0 := blk_frozen BK316.out 0; have hfz14_1 := blk_frozen BK316.out 1; have hfz14_2 := blk_frozen BK316.out 2; have hcz15_0 : w12.cell? ⟨gb317, 0, none⟩ = some (.int .i64 a1_0) := (blk_cell BK317.out 0).trans rfl; have hcz15_1 : w12.cell? ⟨gb317, 1, none⟩ = some (.slice A1_1 l1_1.length c1_1) := (blk_cell BK317.out 1).trans rfl; have hcz15_2 : w12.cell? ⟨gb317, 2, none⟩ = some (.slice A1_2 l1_2.length c1_2) := (blk_cell BK317.out 2).trans rfl; have hfz15_0 := blk_frozen BK317.out 0; have hfz15_1 := blk_frozen BK317.out 1; have hfz15_2 := blk_frozen BK317.out 2) | (go_at_call 40; (with_reducible refine (bytes_Equal.calls _ _ l0_1 _ _ l1_1 false _ ?side1 ?side2 ?side3 ?side4 A4.out).mono ?_); (case side1 => repeat (first | exact (Kd.C_below HR0_1.out HB.out) | (with_reducible refine Kd.C_alloc ?_ _) | (with_reducible refine Kd.C_drewN ?_ _) | (with_reducible refine Kd.C_drew ?_))); (case side2 => exact HC0_1.out); (case side3 => repeat (first | exact (Kd.C_below HR1_1.out HB.out) | (with_reducible refine Kd.C_alloc ?_ _) | (with_reducible refine Kd.C_drewN ?_ _) | (with_reducible refine Kd.C_drew ?_))); (case side4 => exact HC1_1.out); rintro e w' ⟨rfl, ⟨nd, rfl⟩⟩))
   go_ret
   exact ⟨by first | rfl | (simp [errW_none, errW_some] <;> rfl) | (simp [*, errW_none, errW_some] <;> rfl), by repeat (first | (with_reducible first | exact HB.out | apply below_alloc | apply pw_below_drewN | apply below_drew1 | refine below_set ?_ GE316.out | refine below_set ?_ GE317.out) | exact HB.out)⟩
 ·rw [if_neg c3] at H
  have c3b0 : (a0_0 == a1_0) = false := beq_eq_false_iff_ne.mpr c3
  have c3b1 : (a0_0 != a1_0) = true := bne_iff_ne.mpr c3
  obtain rfl := Option.some.inj H
  go_enter Try.func55, Try.ntmps55
  go_wp2_with (first | ((with_reducible refine gate_dst (N := 2) rfl ?_); (try (refine gate_guard (by rfl) ?_; dsimp only)); refine box_event ?hg (N := 2) ?hd (cs := #[.int .i64 a0_0, .slice A0_1 l0_1.length c0_1, .slice A0_2 l0_2.length c0_2]) (t := 25) ?hr ?_; (case hd => rfl); (case hg => rfl); (case hr => first | (go_simp; done) | (go_simp; rfl)); intro gb316 hg w16 hbox hb; have n0_ := Aside0.mk (below_step (by repeat (first | (with_reducible first | exact HB.out | apply below_alloc | apply pw_below_drewN | apply below_drew1) | exact HB.out)) hb); have n1_ := Aside0.mk (hbox); have n2_ := Aside0.mk ((by rw [hg]; exact (below_size (by repeat (first | (with_reducible first | exact HB.out | apply below_alloc | apply pw_below_drewN | apply below_drew1) | exact HB.out))) : w.heap.size ≤ gb316)); have n3_ := Aside0.mk ((by rw [hg]; exact (below_size (by repeat (first | (with_reducible first | exact HB.out | apply below_alloc | apply pw_below_drewN | apply below_drew1) | exact HB.out))) : w.heap.size ≤ gb316)); clear HB; have HB := n0_; have BK316 := n1_; have GW316 := n2_; have GE316 := n3_; clear n0_ n1_ n2_ n3_; clear hb hbox hg) | ((with_reducible refine gate_dst (N := 3) rfl ?_); (try (refine gate_guard (by rfl) ?_; dsimp only)); refine box_event ?hg (N := 3) ?hd (cs := #[.int .i64 a1_0, .slice A1_1 l1_1.length c1_1, .slice A1_2 l1_2.length c1_2]) (t := 25) ?hr ?_; (case hd => rfl); (case hg => rfl); (case hr => first | (go_simp; done) | (go_simp; rfl)); intro gb317 hg w17 hbox hb; have n0_ := Aside0.mk (blk_below (g := gb316) (o := .cells #[.int .i64 a0_0, .slice A0_1 l0_1.length c0_1, .slice A0_2 l0_2.length c0_2] 25 (0, 0)) (by (with_reducible repeat (first | refine blk_drewN ?_ _ | refine blk_drew ?_ | refine blk_alloc ?_ _)); exact BK316.out) hb); have n1_ := Aside0.mk (below_step (by repeat (first | (with_reducible first | exact HB.out | apply below_alloc | apply pw_below_drewN | apply below_drew1 | refine below_set ?_ GE316.out) | exact HB.out)) hb); have n2_ := Aside0.mk (hbox); have n3_ := Aside0.mk ((by rw [hg]; exact (below_size (by repeat (first | (with_reducible first | exact HB.out | apply below_alloc | apply pw_below_drewN | apply below_drew1 | refine below_set ?_ GE316.out) | exact HB.out))) : w.heap.size ≤ gb317)); have n4_ := Aside0.mk ((by rw [hg]; exact (below_size (by repeat (first | (with_reducible first | exact HB.out | apply below_alloc | apply pw_below_drewN | apply below_drew1 | refine below_set ?_ GE316.out) | exact HB.out))) : w.heap.size ≤ gb317)); have n5_ := Aside0.mk ((by rw [hg]; exact Nat.ne_of_lt (blk_lt (g := gb316) (o := .cells #[.int .i64 a0_0, .slice A0_1 l0_1.length c0_1, .slice A0_2 l0_2.length c0_2] 25 (0, 0)) (by (with_reducible repeat (first | refine blk_drewN ?_ _ | refine blk_drew ?_ | refine blk_alloc ?_ _)); exact BK316.out)) : gb316 ≠ gb317)); have n6_ := Aside0.mk ((by rw [hg]; exact Nat.ne_of_gt (blk_lt (g := gb316) (o := .cells #[.int .i64 a0_0, .slice A0_1 l0_1.length c0_1, .slice A0_2 l0_2.length c0_2] 25 (0, 0)) (by (with_reducible repeat (first | refine blk_drewN ?_ _ | refine blk_drew ?_ | refine blk_alloc ?_ _)); exact BK316.out)) : gb317 ≠ gb316)); clear BK316; clear HB; have BK316 := n0_; have HB := n1_; have BK317 := n2_; have GW317 := n3_; have GE317 := n4_; have NB316_317 := n5_; have NB317_316 := n6_; clear n0_ n1_ n2_ n3_ n4_ n5_ n6_; clear hb hbox hg; have hnb18 := NB316_317.out; have hnc18 := NB317_316.out; have hcz19_0 : w17.cell? ⟨gb316, 0, none⟩ = some (.int .i64 a0_0) := (blk_cell BK316.out 0).trans rfl; have hcz19_1 : w17.cell? ⟨gb316, 1, none⟩ = some (.slice A0_1 l0_1.length c0_1) := (blk_cell BK316.out 1).trans rfl; have hcz19_2 : w17.cell? ⟨gb316, 2, none⟩ = some (.slice A0_2 l0_2.length c0_2) := (blk_cell BK316.out 2).trans rfl; have hfz19_0 := blk_frozen BK316.out 0; have hfz19_1 := blk_frozen BK316.out 1; have hfz19_2 := blk_frozen BK316.out 2; have hcz20_0 : w17.cell? ⟨gb317, 0, none⟩ = some (.int .i64 a1_0) := (blk_cell BK317.out 0).trans rfl; have hcz20_1 : w17.cell? ⟨gb317, 1, none⟩ = some (.slice A1_1 l1_1.length c1_1) := (blk_cell BK317.out 1).trans rfl; have hcz20_2 : w17.cell? ⟨gb317, 2, none⟩ = some (.slice A1_2 l1_2.length c1_2) := (blk_cell BK317.out 2).trans rfl; have hfz20_0 := blk_frozen BK317.out 0; have hfz20_1 := blk_frozen BK317.out 1; have hfz20_2 := blk_frozen BK317.out 2))
  go_ret
  exact ⟨by first | rfl | (simp [errW_none, errW_some] <;> rfl) | (simp [*, errW_none, errW_some] <;> rfl), by repeat (first | (with_reducible first | exact HB.out | apply below_alloc | apply pw_below_drewN | apply below_drew1 | refine below_set ?_ GE316.out | refine below_set ?_ GE317.out) | exact HB.out)⟩

end Go.Proofs.Ytmbgjhkemlliaaa.PT
end

/- spki.same, bytes.Clone, walked. -/
section
set_option linter.unusedVariables false
set_option linter.unusedSimpArgs false
namespace Go.Proofs.Ytmbgjhkemlliaaa.Tlv
open Go.RowKit Go.Proofs.YtmbgjhkemlliaaaW.PrintWords Go.Proofs.YtmbgjhkemlliaaaW.PrintLast Go.Proofs.YtmbgjhkemlliaaaW.PrintMore Go.Proofs.Ytmbgjhkemlliaaa.PT

theorem nums_of (x : List Int) (h : ∀ v ∈ x, 0 ≤ v ∧ v < 256) : x = (strOfNums x).data.toList.map fun b => (b.toNat : Int) := by
 rw [strOfNums_data, List.map_map]
 symm
 rw [List.map_congr_left (g := id) (fun v hv => ?_), List.map_id]
 have := h v hv
 have hk : v.toNat < 256 := by omega
 show ((UInt8.ofNat v.toNat).toNat : Int) = v
 have e : (UInt8.ofNat v.toNat).toNat = v.toNat := by simp; omega
 rw [e]
 omega
theorem str_inj {x y : List Int} (hx : ∀ v ∈ x, 0 ≤ v ∧ v < 256) (hy : ∀ v ∈ y, 0 ≤ v ∧ v < 256) (h : strOfNums x = strOfNums y) : x = y := by
 rw [nums_of x hx, nums_of y hy, h]
def eqB (x y : List Int) : Bool := (strOfNums x).toList == (strOfNums y).toList
theorem eqB_rfl (x : List Int) : eqB x x = true := by unfold eqB; exact beq_self_eq_true _
theorem eqB_eq {x y : List Int} (hx : ∀ v ∈ x, 0 ≤ v ∧ v < 256) (hy : ∀ v ∈ y, 0 ≤ v ∧ v < 256) (h : eqB x y = true) : x = y := by
 unfold eqB at h
 have h := eq_of_beq h
 rw [Lib.strOfNums_toList, Lib.strOfNums_toList] at h
 rw [nums_of x hx, nums_of y hy, strOfNums_data, strOfNums_data]
 exact congrArg _ h
def sameP (a b : T) : Bool := match writeP a with
 | .err _ => false
 | .ok x => match writeP b with
  | .err _ => false
  | .ok y => eqB x y
theorem writeP_err {t : T} {x : Int} (h : writeP t = .err x) : x = 2 ∨ x = 4 ∨ x = 5 := by
 unfold writeP at h
 split at h
 ·injection h with h; omega
 ·split at h
  ·injection h with h; omega
  ·split at h
   ·injection h with h; omega
   ·cases h
/-- What Write gives, in one form. -/
def WriteUni (w : World) (n : T) (e : Ending) (w' : World) : Prop := ∃ A l c x, e = .returned (.tuple #[.slice A (List.length l) c, .int .i64 x]) ∧ ((x ≠ 0 ∧ writeP n = .err x) ∨ (x = 0 ∧ writeP n = .ok l)) ∧ (Kd.int .u8).R 5 w' w.heap.size (fun _ => True) (.slice A l.length c) l ∧ Below w.heap.size w w'
theorem WritePost.uni {w : World} {n : T} {e : Ending} {w' : World} (h : WritePost w n e w') : WriteUni w n e w' := by
 unfold WritePost at h
 cases hq : writeP n with
 | err x =>
  rw [hq] at h
  obtain ⟨rfl, hb⟩ := h
  exact ⟨none, [], 0, x, rfl, .inl ⟨by have := writeP_err hq; omega, hq⟩, Kd.R_nil _ _ _ _ _, hb⟩
 | ok l =>
  rw [hq] at h
  obtain ⟨A, c, rfl, ho, hb⟩ := h
  exact ⟨A, l, c, 0, rfl, .inr ⟨rfl, hq⟩, ho, hb⟩

set_option maxHeartbeats 4000000 in
set_option maxRecDepth 100000 in
theorem same_walk (a b : T) (ha : rightT a = true → sizeT a ≤ 100000000) (hb : rightT b = true → sizeT b ≤ 100000000) (A1 : Option Addr) (c1 : Nat) (A2 : Option Addr) (c2 : Nat) (B1 : Option Addr) (d1 : Nat) (B2 : Option Addr) (d2 : Nat) (w : World) (hna : NodeAt w a A1 c1 A2 c2) (hnb : NodeAt w b B1 d1 B2 d2) :
 Calls Try.prog 23 #[.agg #[.int .i64 a.f0, .slice A1 a.f1.length c1, .slice A2 a.f2.length c2], .agg #[.int .i64 b.f0, .slice B1 b.f1.length d1, .slice B2 b.f2.length d2]] w fun e w' => e = .returned (.bool (sameP a b)) ∧ Below w.heap.size w w' := by
 have HW1 := Lib.hid (fun (w1 : World) (hB : Below w.heap.size w w1) => write_walk a ha A1 c1 A2 c2 w1 (hna.below hB))
 have HW2 := Lib.hid (fun (w1 : World) (hB : Below w.heap.size w w1) => write_walk b hb B1 d1 B2 d2 w1 (hnb.below hB))
 have hbox : ((w.alloc (.cells #[.int .i64 a.f0, .slice A1 a.f1.length c1, .slice A2 a.f2.length c2] 25)).alloc (.cells #[.int .i64 b.f0, .slice B1 b.f1.length d1, .slice B2 b.f2.length d2] 25)).heap[w.heap.size + 1]? = some (.cells #[.int .i64 b.f0, .slice B1 b.f1.length d1, .slice B2 b.f2.length d2] 25 (0, 0)) := by
  have := heap_alloc_new (w.alloc (.cells #[.int .i64 a.f0, .slice A1 a.f1.length c1, .slice A2 a.f2.length c2] 25)) (.cells #[.int .i64 b.f0, .slice B1 b.f1.length d1, .slice B2 b.f2.length d2] 25)
  simpa using this
 have hB : Below w.heap.size w ((w.alloc (.cells #[.int .i64 a.f0, .slice A1 a.f1.length c1, .slice A2 a.f2.length c2] 25)).alloc (.cells #[.int .i64 b.f0, .slice B1 b.f1.length d1, .slice B2 b.f2.length d2] 25)) := ((Below.refl _ _).alloc (Nat.le_refl _) _).alloc (by simp) _
 have HBOX := Lib.hid hbox
 have HB := Lib.hid hB
 clear hbox hB hna hnb ha hb
 generalize hSP : sameP a b = sp
 go_enter Try.func23, Try.ntmps23
 go_wp2_with (fail)
 refine (HW1.out _ HB.out).mono ?_
 rintro e w2 h2
 obtain ⟨X1, l1, e1, x1, rfl, hx1, hr1, hB2⟩ := WritePost.uni h2
 have hb2 := (hB2.block _ (heap_lt HBOX.out)).trans HBOX.out
 have hBw2 := HB.out.trans (hB2.mono HB.out.size)
 have a0 := Lib.cell_of_heap hb2 0
 have a1 := Lib.cell_of_heap hb2 1
 have a2 := Lib.cell_of_heap hb2 2
 have HB2 := Lib.hid hBw2
 have HR1 := Lib.hid hr1
 have HX1 := Lib.hid hx1
 clear h2 hB2 hb2 hBw2 hr1 hx1
 go_wp2_with (fail)
 refine (HW2.out _ HB2.out).mono ?_
 rintro e w3 h3
 obtain ⟨X2, l2, e2, x2, rfl, hx2, hr2, hB3⟩ := WritePost.uni h3
 have hBw3 := HB2.out.trans (hB3.mono HB2.out.size)
 have HB3 := Lib.hid hBw3
 have HR13 := Lib.hid (Kd.R_below HR1.out hB3)
 have HR2 := Lib.hid hr2
 clear h3 hB3 hBw3 hr2 a0 a1 a2
 rcases HX1.out with ⟨n1, q1⟩ | ⟨rfl, q1⟩
 ·have hp : sp = false := by rw [← hSP]; unfold sameP; rw [q1]
  clear hSP
  subst hp
  have hn1 := eq_false n1
  have hn1' : decide (x1 = 0) = false := decide_eq_false n1
  clear HX1 hx2 n1 q1
  go_wp2
  go_ret
  exact ⟨by simp [hn1], HB3.out⟩
 ·rcases hx2 with ⟨n2, q2⟩ | ⟨rfl, q2⟩
  ·have hp : sp = false := by rw [← hSP]; unfold sameP; rw [q1, q2]
   clear hSP
   subst hp
   have hn2 := eq_false n2
   have hn2' : decide (x2 = 0) = false := decide_eq_false n2
   clear HX1 n2 q1 q2
   go_wp2
   go_ret
   exact ⟨by simp [hn2], HB3.out⟩
  ·have hp : sp = eqB l1 l2 := by rw [← hSP]; unfold sameP; rw [q1, q2]
   clear hSP
   subst hp
   clear HX1 q1 q2
   obtain ⟨_, _, f1, g1, k1⟩ := Kd.R_reads HR13.out
   injection f1 with f1 _ f1'
   subst f1 f1'
   obtain ⟨_, _, f2, g2, k2⟩ := Kd.R_reads HR2.out
   injection f2 with f2 _ f2'
   subst f2 f2'
   have HEQ := Lib.hid (bytes_Equal.calls X1 e1 l1 X2 e2 l2 (eqB l1 l2) w3 k1 g1 k2 g2 rfl)
   clear g1 k1 g2 k2
   go_wp2_with (fail)
   refine HEQ.out.mono ?_
   rintro e w4 ⟨rfl, hd⟩
   have hBf := HB3.out.trans (hd.below.mono HB3.out.size)
   clear hd
   go_wp2
   go_ret
   exact ⟨rfl, hBf⟩

set_option maxHeartbeats 4000000 in
set_option maxRecDepth 100000 in
theorem clone_walk (A : Option Addr) (c : Nat) (l : List Int) (w : World) (hr : ReadsInt w .u8 A l.length l) (hc : l.length ≤ c) (hl : l.length ≤ 1000000) :
 Calls Try.prog 41 #[.slice A l.length c] w fun e w' => ∃ A' c', e = .returned (.slice A' l.length c') ∧ (Kd.int .u8).R 5 w' w.heap.size (fun _ => True) (.slice A' l.length c') l ∧ Below w.heap.size w w' := by
 cases A with
 | none =>
  have h0 : l = [] := by
   have := hr.2.2
   cases l with
   | nil => rfl
   | cons x l => obtain ⟨ad, e, _⟩ := this (by simp); cases e
  subst h0
  clear hr
  have hq : ∀ (c : Nat) (w : World), (binOp .eql 22 (.slice none 0 c) (.slice none 0 0)).run Try.prog w = .ok (.bool true) w := fun _ _ => rfl
  go_enter Try.func41, Try.ntmps41
  go_wp2
  go_ret
  exact ⟨none, 0, rfl, Kd.R_nil _ _ _ _ _, Below.refl _ _⟩
 | some ad =>
  have hq : ∀ (n c : Nat) (w : World), (binOp .eql 22 (.slice (some ad) n c) (.slice none 0 0)).run Try.prog w = .ok (.bool false) w := fun _ _ _ => rfl
  have HAP := Lib.hid (fun (ops : Array Oper) (o : Oper) (a : Act) (Q : Exit → Act → World → Prop) (rest : List Oper) (s x : Operand) hgd ho hs hx h =>
   add_in (ops := ops) (o := o) (a := a) (Q := Q) (rest := rest) (w.alloc (.cells #[] 5)) w.heap.size (some ⟨w.heap.size, 0, none⟩) 0 [] (some ad) c l l.length s x hgd ho hs hx
    (own0 w w.heap.size (fun k => w.heap.size ≤ k) (Nat.le_refl _) (Nat.le_refl _)) (ReadsInt_below hr ((Below.refl _ _).alloc (Nat.le_refl _) _)) rfl (by simp) (by simp; omega) h)
  clear hr
  go_enter Try.func41, Try.ntmps41
  go_wp2_with ((with_reducible refine at_dst 7 ?_); go_must (refine HAP.out _ _ _ _ _ (.tmp 5) (.tmp 6) rfl rfl rfl rfl ?_); rintro w1 A1 c1 ho1 hb1 hg1; rw [List.nil_append] at ho1; have HO1 := Lib.hid ho1; have HB1 := Lib.hid hb1; clear ho1 hb1 hg1)
  go_ret
  exact ⟨A1, c1, by simp, Kd.R_mono HO1.out (fun _ _ => trivial), ((Below.refl _ _).alloc (Nat.le_refl _) _).trans HB1.out⟩

end Go.Proofs.Ytmbgjhkemlliaaa.Tlv
end

/- The reference's Light: what is light has a small weight. -/
section
set_option linter.unusedVariables false
set_option linter.unusedSimpArgs false
namespace Go.Proofs.Ytmbgjhkemlliaaa.Tlv
open Go.RowKit Go.Proofs.YtmbgjhkemlliaaaW.PrintWords Go.Proofs.YtmbgjhkemlliaaaW.PrintLast Go.Proofs.YtmbgjhkemlliaaaW.PrintMore Go.Proofs.Ytmbgjhkemlliaaa.PT

theorem wg_up {a : Int} {b : List Int} {c : List T} {d r : Int} {k : Nat} (h : lanyardref04_weigh.f k a b c d = some r) : ∀ j, lanyardref04_weigh.f (k + j) a b c d = some r
 | 0 => h
 | j + 1 => lanyardref04_weigh.mono a b c d (k + j) r (wg_up h j)
theorem wgl_up {d x i a : Int} {b : List Int} {c : List T} {r : Int} {k : Nat} (h : lanyardref04_weigh.l0 k d x i a b c = some r) : ∀ j, lanyardref04_weigh.l0 (k + j) d x i a b c = some r
 | 0 => h
 | j + 1 => (lanyardref04_weigh.mono_l (k + j)).2 d x i a b c r (wgl_up h j)
def WeighC (t : T) : Prop := ∀ d : Int, 0 ≤ d → d ≤ 61 → ∃ (k : Nat) (r : Int), lanyardref04_weigh.f k t.f0 t.f1 t.f2 d = some r ∧ 1 ≤ r ∧ r ≤ 60002 * (62 - d) ∧ (r < 30000 → r = wT t)
theorem wg_loop (a : Int) (b : List Int) (kids : List T) (d : Int) (hd : 0 ≤ d) (hd2 : d ≤ 60) : ∀ (l pre : List T), kids = pre ++ l → (∀ t, t ∈ l → WeighC t) → ∀ c : Int, (pre.length : Int) + 1 ≤ c → c ≤ 30001 + 60002 * (61 - d) → (c < 30000 → c = 1 + (b.length : Int) + wL pre) →
 ∃ (k : Nat) (r : Int), lanyardref04_weigh.l0 k d c (pre.length : Int) a b kids = some r ∧ 1 ≤ r ∧ r ≤ 30001 + 60002 * (61 - d) ∧ (r < 30000 → r = 1 + (b.length : Int) + wL kids)
 | [], pre, e, _, c, h1, h2, h3 => by
  rw [List.append_nil] at e
  subst e
  exact ⟨1, c, by rw [lanyardref04_weigh.l0, if_neg (by omega)], by omega, h2, h3⟩
 | t :: l, pre, e, ih, c, h1, h2, h3 => by
  have hlen : (pre.length : Int) < kids.length := by rw [e]; simp; omega
  have hrd : rd_T25 kids (pre.length : Int) = t := by simp [rd_T25, e]
  by_cases hc : c < 30000
  ·obtain ⟨k1, r1, g1, g2, g3, g4⟩ := ih t List.mem_cons_self (d + 1) (by omega) (by omega)
   have h3' := h3 hc
   have hw := wL_app pre [t]
   have hw1 : wL [t] = wT t := by rw [wL, wL]; omega
   rw [hw1] at hw
   obtain ⟨k2, r, q1, q2, q3, q4⟩ := wg_loop a b kids d hd hd2 l (pre ++ [t]) (by rw [e]; simp) (fun u hu => ih u (List.mem_cons_of_mem _ hu)) (c + r1) (by simp; omega) (by omega) (fun hcc => by rw [hw, ← g4 (by omega)]; omega)
   refine ⟨(k1 + k2) + 1, r, ?_, q2, q3, q4⟩
   have j2 := wgl_up q1 k1
   rw [Nat.add_comm k2 k1, show ((pre ++ [t]).length : Int) = (pre.length : Int) + 1 by simp] at j2
   rw [lanyardref04_weigh.l0, if_pos hlen, if_pos hc, if_pos (by omega), hrd, wrap64_in _ (by omega), wg_up g1 k2, Option.bind_some, wrap64_in _ (by omega), wrap64_in _ (by omega)]
   exact j2
  ·exact ⟨1, c, by rw [lanyardref04_weigh.l0, if_pos hlen, if_neg hc], by omega, h2, fun h => absurd h hc⟩
theorem wg_step (n : T) (ih : ∀ t, t ∈ n.f2 → WeighC t) : WeighC n := by
 obtain ⟨tag, body, kids⟩ := n
 intro d h0 h1
 dsimp only at ih ⊢
 by_cases hd : d > 60
 ·exact ⟨1, 30000, by rw [lanyardref04_weigh.f, if_pos hd], by omega, by omega, fun h => by omega⟩
 ·have hmn : mn (body.length : Int) 30000 = min (body.length : Int) 30000 := by unfold mn; split <;> omega
  obtain ⟨k, r, q1, q2, q3, q4⟩ := wg_loop tag body kids d h0 (by omega) kids [] rfl ih (1 + min (body.length : Int) 30000) (by simp; omega) (by omega) (fun hc => by rw [wL]; omega)
  refine ⟨k + 1, r, ?_, q2, by omega, fun h => by rw [wT]; exact q4 h⟩
  rw [lanyardref04_weigh.f, if_neg hd, hmn]
  exact q1
theorem wg_le : ∀ (m : Nat) (n : T), SizeOf.sizeOf n ≤ m → WeighC n
 | 0, ⟨a, b, c⟩, h => by simp at h
 | m + 1, ⟨a, b, c⟩, h => wg_step _ fun t ht => wg_le m t (by
  have := List.sizeOf_lt_of_mem ht
  simp at h this
  omega)
theorem light_f (n : T) : ∃ (k : Nat) (b : Bool), lanyardref04_Light.f k n.f0 n.f1 n.f2 = some b ∧ (b = true → wT n < 30000) := by
 obtain ⟨k, r, h1, h2, h3, h4⟩ := wg_le _ n (Nat.le_refl _) 0 (by omega) (by omega)
 refine ⟨k, decide (r < 30000), by rw [lanyardref04_Light.f, h1]; rfl, fun h => ?_⟩
 have := of_decide_eq_true h
 rw [← h4 this]
 exact this
/-- Light, as it is called. -/
theorem light_walk (n : T) (A1 : Option Addr) (c1 : Nat) (A2 : Option Addr) (c2 : Nat) (w : World) (hn : NodeAt w n A1 c1 A2 c2) :
 ∃ b : Bool, (b = true → wT n < 30000) ∧ Calls Try.prog 6 #[.agg #[.int .i64 n.f0, .slice A1 n.f1.length c1, .slice A2 n.f2.length c2]] w fun e w' => e = .returned (.bool b) ∧ Below w.heap.size w w' := by
 obtain ⟨k, b, h1, h2⟩ := light_f n
 exact ⟨b, h2, lanyardref04_Light.calls k _ _ _ _ _ _ _ _ w hn.1 hn.2.1 hn.2.2.1 hn.2.2.2 h1⟩
/-- The reference's Write, as it is called. -/
theorem rwrite_walk (n : T) (hw : wT n ≤ 1000000) (A1 : Option Addr) (c1 : Nat) (A2 : Option Addr) (c2 : Nat) (w : World) (hn : NodeAt w n A1 c1 A2 c2) :
 Calls Try.prog 17 #[.agg #[.int .i64 n.f0, .slice A1 n.f1.length c1, .slice A2 n.f2.length c2]] w (WriteUni w n) := by
 obtain ⟨k, h⟩ := rwrite_f n hw
 refine (lanyardref04_Write.calls k _ _ _ _ _ _ _ (resW (writeP n)).1 (resW (writeP n)).2 w hn.1 hn.2.1 hn.2.2.1 hn.2.2.2 h).mono ?_
 rintro e w' ⟨v, rfl, ho, hb⟩
 obtain ⟨A, c, rfl⟩ := Kd.R_slice ho
 refine ⟨A, _, c, _, rfl, ?_, ho, hb⟩
 cases hq : writeP n with
 | err x => exact .inl ⟨by have := writeP_err hq; show x ≠ 0; omega, rfl⟩
 | ok l => exact .inr ⟨rfl, rfl⟩
/-- What Write gives, with no bytes beside an error. -/
def WriteR (w : World) (n : T) (e : Ending) (w' : World) : Prop := ∃ A l c x, e = .returned (.tuple #[.slice A (List.length l) c, .int .i64 x]) ∧ resW (writeP n) = (l, x) ∧ (Kd.int .u8).R 5 w' w.heap.size (fun _ => True) (.slice A l.length c) l ∧ Below w.heap.size w w'
theorem rwrite_R (n : T) (hw : wT n ≤ 1000000) (A1 : Option Addr) (c1 : Nat) (A2 : Option Addr) (c2 : Nat) (w : World) (hn : NodeAt w n A1 c1 A2 c2) :
 Calls Try.prog 17 #[.agg #[.int .i64 n.f0, .slice A1 n.f1.length c1, .slice A2 n.f2.length c2]] w (WriteR w n) := by
 obtain ⟨k, h⟩ := rwrite_f n hw
 refine (lanyardref04_Write.calls k _ _ _ _ _ _ _ (resW (writeP n)).1 (resW (writeP n)).2 w hn.1 hn.2.1 hn.2.2.1 hn.2.2.2 h).mono ?_
 rintro e w' ⟨v, rfl, ho, hb⟩
 obtain ⟨A, c, rfl⟩ := Kd.R_slice ho
 exact ⟨A, _, c, _, rfl, rfl, ho, hb⟩

end Go.Proofs.Ytmbgjhkemlliaaa.Tlv
end

/- The machine side: functions as plain Lean functions, and that the calls come to what these say; written by a program of this session (wip/tools/inc.py over the kit's printer). -/
section
namespace Go.Proofs.Ytmbgjhkemlliaaa.PT
open Go.RowKit Go.Proofs.YtmbgjhkemlliaaaW.PrintWords Go.Proofs.YtmbgjhkemlliaaaW.PrintLast Go.Proofs.YtmbgjhkemlliaaaW.PrintMore
attribute [local go_sem] max2_int min2_int max_two min_two max_three min_three max_four min_four   -- for this text's walks alone
set_option linter.unusedVariables false
set_option linter.unusedSimpArgs false

/-! ### lanyardref04_head: function 56 -/
mutual
def lanyardref04_head.j0 : Nat → List Int → Int → Int → Int → Option (Int × Int × Int)
 | 0, _, _, _, _ => none
 | k + 1, x0, x1, x2, x9 => if x1 ≥ x2 then (some (0, 0, x9)) else (if 0 ≤ x1 then (if x1 < (x0.length : Int) then (if (Int.tmod (rd x0 x1) 32) = 31 then (some (0, 0, 2)) else (if (wrap64 (x1 + 1)) ≥ x2 then (some (0, 0, x9)) else (if 0 ≤ (wrap64 (x1 + 1)) then (if (wrap64 (x1 + 1)) < (x0.length : Int) then (if (wrap64 (rd x0 (wrap64 (x1 + 1)))) < 128 then (some (wrap64 (x1 + 2), wrap64 (rd x0 (wrap64 (x1 + 1))), 0)) else (if (wrap64 (rd x0 (wrap64 (x1 + 1)))) = 129 then (lanyardref04_head.j1 k x0 x1 x2 x9 (wrap64 (rd x0 (wrap64 (x1 + 1)))) false) else (lanyardref04_head.j1 k x0 x1 x2 x9 (wrap64 (rd x0 (wrap64 (x1 + 1)))) ((wrap64 (rd x0 (wrap64 (x1 + 1)))) != 130)))) else (none)) else (none)))) else (none)) else (none))
def lanyardref04_head.j1 : Nat → List Int → Int → Int → Int → Int → Bool → Option (Int × Int × Int)
 | 0, _, _, _, _, _, _ => none
 | k + 1, x0, x1, x2, x9, x10, x46 => if x46 = true then (some (0, 0, 2)) else (if (wrap64 ((wrap64 (x1 + x10)) - 127)) ≥ x2 then (some (0, 0, x9)) else (if x10 = 129 then (if 0 ≤ (wrap64 (x1 + 2)) then (if (wrap64 (x1 + 2)) < (x0.length : Int) then (if (rd x0 (wrap64 (x1 + 2))) < 128 then (some (0, 0, 2)) else (some (wrap64 (x1 + 3), wrap64 (rd x0 (wrap64 (x1 + 2))), 0))) else (none)) else (none)) else (if 0 ≤ (wrap64 (x1 + 2)) then (if (wrap64 (x1 + 2)) < (x0.length : Int) then (if (rd x0 (wrap64 (x1 + 2))) = 0 then (some (0, 0, 2)) else (if 0 ≤ (wrap64 (x1 + 3)) then (if (wrap64 (x1 + 3)) < (x0.length : Int) then (some (wrap64 (x1 + 4), wrap64 ((wrap64 ((wrap64 (rd x0 (wrap64 (x1 + 2)))) * 256)) + (wrap64 (rd x0 (wrap64 (x1 + 3))))), 0)) else (none)) else (none))) else (none)) else (none))))
end
def lanyardref04_head.f (k : Nat) (l0 : List Int) (a1 : Int) (a2 : Int) : Option (Int × Int × Int) := if a2 < (l0.length : Int) then (lanyardref04_head.j0 k l0 a1 a2 2) else (lanyardref04_head.j0 k l0 a1 a2 3)
theorem lanyardref04_head.mono_l : ∀ k, (∀ y0 y1 y2 y3, LeO (lanyardref04_head.j0 k y0 y1 y2 y3) (lanyardref04_head.j0 (k + 1) y0 y1 y2 y3)) ∧ (∀ y0 y1 y2 y3 y4 y5, LeO (lanyardref04_head.j1 k y0 y1 y2 y3 y4 y5) (lanyardref04_head.j1 (k + 1) y0 y1 y2 y3 y4 y5))
 | 0 => ⟨fun _ _ _ _ r h => by simp [lanyardref04_head.j0] at h, fun _ _ _ _ _ _ r h => by simp [lanyardref04_head.j1] at h⟩
 | k + 1 => by
  obtain ⟨ih0, ih1⟩ := lanyardref04_head.mono_l k
  refine ⟨?_, ?_⟩
  ·intro y0 y1 y2 y3
   unfold lanyardref04_head.j0
   repeat' first
   | (with_reducible exact ih0 _ _ _ _)
   | (with_reducible exact ih1 _ _ _ _ _ _)
   | (with_reducible exact LeO.refl _)
   | (with_reducible exact LeO.none _)
   | (with_reducible refine LeO.ite ?_ ?_)
   | (with_reducible refine LeO.bind ?_ (fun _ => ?_))
   | exact ih0 _ _ _ _
   | exact ih1 _ _ _ _ _ _
   | exact LeO.none _
   | refine LeO.ite ?_ ?_
   | refine LeO.bind ?_ (fun _ => ?_)
  ·intro y0 y1 y2 y3 y4 y5
   unfold lanyardref04_head.j1
   repeat' first
   | (with_reducible exact ih0 _ _ _ _)
   | (with_reducible exact ih1 _ _ _ _ _ _)
   | (with_reducible exact LeO.refl _)
   | (with_reducible exact LeO.none _)
   | (with_reducible refine LeO.ite ?_ ?_)
   | (with_reducible refine LeO.bind ?_ (fun _ => ?_))
   | exact ih0 _ _ _ _
   | exact ih1 _ _ _ _ _ _
   | exact LeO.none _
   | refine LeO.ite ?_ ?_
   | refine LeO.bind ?_ (fun _ => ?_)
theorem lanyardref04_head.mono : ∀ a0 a1 a2 k, LeO (lanyardref04_head.f k a0 a1 a2) (lanyardref04_head.f (k + 1) a0 a1 a2) := by
 intro a0 a1 a2 k
 obtain ⟨ih0, ih1⟩ := lanyardref04_head.mono_l k
 unfold lanyardref04_head.f
 repeat' first
  | (with_reducible exact ih0 _ _ _ _)
  | (with_reducible exact ih1 _ _ _ _ _ _)
  | (with_reducible exact LeO.refl _)
  | (with_reducible exact LeO.none _)
  | (with_reducible refine LeO.ite ?_ ?_)
  | (with_reducible refine LeO.bind ?_ (fun _ => ?_))
  | exact ih0 _ _ _ _
  | exact ih1 _ _ _ _ _ _
  | exact LeO.none _
  | refine LeO.ite ?_ ?_
  | refine LeO.bind ?_ (fun _ => ?_)
set_option maxHeartbeats 8000000 in
set_option maxRecDepth 100000 in
theorem lanyardref04_head.calls (k : Nat) (A0 : Option Addr) (c0 : Nat) (l0 : List Int) (a1 : Int) (a2 : Int) (r1 : Int) (r2 : Int) (r3 : Int) (w : World) (hr0 : Kd.C (Kd.int .u8) w A0 l0.length l0) (hc0 : l0.length ≤ c0) (h : lanyardref04_head.f k l0 a1 a2 = some (r1, r2, r3)) :
 Calls Try.prog 56 #[.slice A0 l0.length c0, .int .i64 a1, .int .i64 a2] w fun e w' => e = .returned (.tuple #[.int .i64 r1, .int .i64 r2, .int .i64 r3]) ∧ Drawn0 w w' := by
 have HR0 := Aside0.mk hr0
 have HC0 := Aside0.mk hc0
 clear hr0 hc0
 have H : (if a2 < (l0.length : Int) then (lanyardref04_head.j0 k l0 a1 a2 2) else (lanyardref04_head.j0 k l0 a1 a2 3)) = some (r1, r2, r3) := h
 clear h
 have HC4 := Aside0.mk H
 clear H
 go_enter Try.func56, Try.ntmps56
 go_upto_if 14 with (fail)
 repeat (go_quiet (fail); go_upto_if 14 with (fail))
 go_cut [9] (fun v9 wc => ∃ (kq : Nat) (x9_3 : Int), v9 = .int .i64 x9_3 ∧ Aside0 (lanyardref04_head.j0 kq l0 a1 a2 x9_3 = some (r1, r2, r3)) ∧ Aside0 (kq ≤ k) ∧ Drawn0 w wc)
 case first =>
  have H := HC4.out
  clear HC4
  by_cases c5 : a2 < (l0.length : Int)
  ·rw [if_pos c5] at H
   have c5b0 : decide (a2 < (l0.length : Int)) = true := decide_eq_true c5
   clear c5
   (first | rw [c5b0] | (simp only [i64_w, i32_w]; rw [c5b0]) | skip)
   have H' := Aside0.mk H
   clear H
   go_wp2
   repeat (go_quiet (fail); try go_wp2)
   go_meet
   case rel => exact ⟨_, (2), (by first | rfl | (simp; done) | (simp [*]; done)), H', ⟨by first | omega | exact Nat.le_refl _⟩, by repeat (first | exact Drawn0.refl _ | apply Drawn0.step)⟩
  ·rw [if_neg c5] at H
   have c5b0 : decide (a2 < (l0.length : Int)) = false := decide_eq_false c5
   clear c5
   (first | rw [c5b0] | (simp only [i64_w, i32_w]; rw [c5b0]) | skip)
   have H' := Aside0.mk H
   clear H
   go_wp2
   repeat (go_quiet (fail); try go_wp2)
   go_meet
   case rel => exact ⟨_, (3), (by first | rfl | (simp; done) | (simp [*]; done)), H', ⟨by first | omega | exact Nat.le_refl _⟩, by repeat (first | exact Drawn0.refl _ | apply Drawn0.step)⟩
 case rest =>
  clear HC4
  try clear p2
  try clear c5
  try clear c5b0
  obtain ⟨kq, x9_3, rfl, HA, HJ3, ⟨mc3, rfl⟩⟩ := hcut
  cases kq with
  | zero => exact absurd HA.out (by simp [lanyardref04_head.j0])
  | succ kj3 =>
   have H := HA.out
   clear HA
   simp only [lanyardref04_head.j0] at H
   by_cases c6 : a1 ≥ a2
   ·rw [if_pos c6] at H
    have c6b0 : decide (a2 ≤ a1) = true := decide_eq_true c6
    clear c6
    simp only [Option.some.injEq, Prod.mk.injEq] at H
    obtain ⟨rfl, rfl, rfl⟩ := H
    go_wp2
    repeat (go_quiet (fail); try go_wp2)
    go_ret3
    exact ⟨by first | rfl | (simp; done) | (simp [*]; done), by repeat (first | exact Drawn0.refl _ | apply Drawn0.step)⟩
   ·rw [if_neg c6] at H
    have c6b0 : decide (a2 ≤ a1) = false := decide_eq_false c6
    clear c6
    by_cases c7 : 0 ≤ a1
    ·rw [if_pos c7] at H
     have c7b0 : decide (0 ≤ a1) = true := decide_eq_true c7
     clear c7
     by_cases c8 : a1 < (l0.length : Int)
     ·rw [if_pos c8] at H
      have c8b0 : decide (a1 < (l0.length : Int)) = true := decide_eq_true c8
      clear c8
      by_cases c9 : (Int.tmod (rd l0 a1) 32) = 31
      ·rw [if_pos c9] at H
       have c9b0 : ((Int.tmod (rd l0 a1) 32) == 31) = true := beq_iff_eq.mpr c9
       have c9b1 : ((Int.tmod (rd l0 a1) 32) != 31) = false := bne_eq_false_iff_eq.mpr c9
       clear c9
       simp only [Option.some.injEq, Prod.mk.injEq] at H
       obtain ⟨rfl, rfl, rfl⟩ := H
       have p220 : 0 ≤ (a1 : Int) := of_decide_eq_true (by first | (with_reducible assumption) | assumption)
       have q220 : a1 < (l0.length : Int) := of_decide_eq_true (by first | (with_reducible assumption) | assumption)
       obtain ⟨ad220, e220, hx220_0⟩ := Kd.at_int HR0.out a1 p220 q220
       cases e220
       replace p220 := eq_true p220
       replace q220 := eq_true q220
       go_wp2
       repeat (go_quiet (fail); try go_wp2)
       go_ret3
       exact ⟨by first | rfl | (simp; done) | (simp [*]; done), by repeat (first | exact Drawn0.refl _ | apply Drawn0.step)⟩
      ·rw [if_neg c9] at H
       have c9b0 : ((Int.tmod (rd l0 a1) 32) == 31) = false := beq_eq_false_iff_ne.mpr c9
       have c9b1 : ((Int.tmod (rd l0 a1) 32) != 31) = true := bne_iff_ne.mpr c9
       by_cases c10 : (wrap64 (a1 + 1)) ≥ a2
       ·rw [if_pos c10] at H
        have c10b0 : decide (a2 ≤ (wrap64 (a1 + 1))) = true := decide_eq_true c10
        clear c10
        simp only [Option.some.injEq, Prod.mk.injEq] at H
        obtain ⟨rfl, rfl, rfl⟩ := H
        have p220 : 0 ≤ (a1 : Int) := of_decide_eq_true (by first | (with_reducible assumption) | assumption)
        have q220 : a1 < (l0.length : Int) := of_decide_eq_true (by first | (with_reducible assumption) | assumption)
        obtain ⟨ad220, e220, hx220_0⟩ := Kd.at_int HR0.out a1 p220 q220
        cases e220
        replace p220 := eq_true p220
        replace q220 := eq_true q220
        go_wp2
        repeat (go_quiet (fail); try go_wp2)
        go_ret3
        exact ⟨by first | rfl | (simp; done) | (simp [*]; done), by repeat (first | exact Drawn0.refl _ | apply Drawn0.step)⟩
       ·rw [if_neg c10] at H
        have c10b0 : decide (a2 ≤ (wrap64 (a1 + 1))) = false := decide_eq_false c10
        clear c10
        obtain ⟨ji11, hji11⟩ : ∃ j_ : Int, (wrap64 (a1 + 1)) = j_ := ⟨_, rfl⟩
        replace H : (if 0 ≤ (ji11) then (if (ji11) < (l0.length : Int) then (if (wrap64 (rd l0 (ji11))) < 128 then (some (wrap64 (a1 + 2), wrap64 (rd l0 (ji11)), 0)) else (if (wrap64 (rd l0 (ji11))) = 129 then (lanyardref04_head.j1 kj3 l0 a1 a2 x9_3 (wrap64 (rd l0 (ji11))) false) else (lanyardref04_head.j1 kj3 l0 a1 a2 x9_3 (wrap64 (rd l0 (ji11))) ((wrap64 (rd l0 (ji11))) != 130)))) else (none)) else (none)) = some (r1, r2, r3) := by first | (rw [hji11] at H; exact H) | (simp only [hji11] at H ⊢; exact H)
        (try rw [hji11] at c10b0)
        have hji11w : (IntKind.i64.wrap (a1 + 1)) = ji11 := (i64_w _).trans hji11
        by_cases c12 : 0 ≤ (ji11)
        ·rw [if_pos c12] at H
         have c12b0 : decide (0 ≤ (ji11)) = true := decide_eq_true c12
         clear c12
         by_cases c13 : (ji11) < (l0.length : Int)
         ·rw [if_pos c13] at H
          have c13b0 : decide ((ji11) < (l0.length : Int)) = true := decide_eq_true c13
          clear c13
          by_cases c14 : (wrap64 (rd l0 (ji11))) < 128
          ·rw [if_pos c14] at H
           have c14b0 : decide ((wrap64 (rd l0 (ji11))) < 128) = true := decide_eq_true c14
           clear c14
           simp only [Option.some.injEq, Prod.mk.injEq] at H
           obtain ⟨rfl, rfl, rfl⟩ := H
           have p220 : 0 ≤ (a1 : Int) := of_decide_eq_true (by first | (with_reducible assumption) | assumption)
           have q220 : a1 < (l0.length : Int) := of_decide_eq_true (by first | (with_reducible assumption) | assumption)
           obtain ⟨ad220, e220, hx220_0⟩ := Kd.at_int HR0.out a1 p220 q220
           cases e220
           replace p220 := eq_true p220
           replace q220 := eq_true q220
           have p221 : 0 ≤ ((ji11) : Int) := of_decide_eq_true (by first | (with_reducible assumption) | assumption)
           have q221 : (ji11) < (l0.length : Int) := of_decide_eq_true (by first | (with_reducible assumption) | assumption)
           obtain ⟨ad221, e221, hx221_0⟩ := Kd.at_int HR0.out (ji11) p221 q221
           obtain rfl : ad220 = ad221 := (by injection e221)
           replace p221 := eq_true p221
           replace q221 := eq_true q221
           go_wp2
           repeat (go_quiet (fail); try go_wp2)
           go_ret3
           exact ⟨by first | rfl | (simp; done) | (simp only [← hji11] <;> (first | rfl | simp)) | (simp [*]; done), by repeat (first | exact Drawn0.refl _ | apply Drawn0.step)⟩
          ·rw [if_neg c14] at H
           have c14b0 : decide ((wrap64 (rd l0 (ji11))) < 128) = false := decide_eq_false c14
           clear c14
           have HC15 := Aside0.mk H
           clear H
           have p220 : 0 ≤ (a1 : Int) := of_decide_eq_true (by first | (with_reducible assumption) | assumption)
           have q220 : a1 < (l0.length : Int) := of_decide_eq_true (by first | (with_reducible assumption) | assumption)
           obtain ⟨ad220, e220, hx220_0⟩ := Kd.at_int HR0.out a1 p220 q220
           cases e220
           replace p220 := eq_true p220
           replace q220 := eq_true q220
           have p221 : 0 ≤ ((ji11) : Int) := of_decide_eq_true (by first | (with_reducible assumption) | assumption)
           have q221 : (ji11) < (l0.length : Int) := of_decide_eq_true (by first | (with_reducible assumption) | assumption)
           obtain ⟨ad221, e221, hx221_0⟩ := Kd.at_int HR0.out (ji11) p221 q221
           obtain rfl : ad220 = ad221 := (by injection e221)
           replace p221 := eq_true p221
           replace q221 := eq_true q221
           go_upto_region 13 with (fail)
           repeat (go_quiet (fail); go_upto_region 13 with (fail))
           go_cut [46] (fun v46 wc => ∃ (kq : Nat) (x46_14 : Bool), v46 = .bool x46_14 ∧ Aside0 (lanyardref04_head.j1 kq l0 a1 a2 x9_3 (wrap64 (rd l0 (ji11))) x46_14 = some (r1, r2, r3)) ∧ Aside0 (kq ≤ kj3) ∧ Drawn0 w wc)
           case first =>
            have H := HC15.out
            clear HC15
            by_cases c16 : (wrap64 (rd l0 (ji11))) = 129
            ·rw [if_pos c16] at H
             have c16b0 : ((wrap64 (rd l0 (ji11))) == 129) = true := beq_iff_eq.mpr c16
             have c16b1 : ((wrap64 (rd l0 (ji11))) != 129) = false := bne_eq_false_iff_eq.mpr c16
             clear c16
             (first | rw [c16b0] | (simp only [i64_w, i32_w]; rw [c16b0]) | skip)
             have H' := Aside0.mk H
             clear H
             go_wp2
             repeat (go_quiet (fail); try go_wp2)
             go_meet
             case rel => exact ⟨_, (false), (by first | rfl | (simp; done) | (simp [*]; done)), H', ⟨by have := HJ3.out; first | omega | exact Nat.le_refl _⟩, by repeat (first | exact Drawn0.refl _ | apply Drawn0.step)⟩
            ·rw [if_neg c16] at H
             have c16b0 : ((wrap64 (rd l0 (ji11))) == 129) = false := beq_eq_false_iff_ne.mpr c16
             have c16b1 : ((wrap64 (rd l0 (ji11))) != 129) = true := bne_iff_ne.mpr c16
             (first | rw [c16b0] | (simp only [i64_w, i32_w]; rw [c16b0]) | skip)
             have H' := Aside0.mk H
             clear H
             go_wp2
             repeat (go_quiet (fail); try go_wp2)
             go_meet
             case rel => exact ⟨_, (((wrap64 (rd l0 (ji11))) != 130)), (by first | rfl | (simp; done) | (simp only [← hji11] <;> (first | rfl | simp)) | (simp [*]; done)), H', ⟨by have := HJ3.out; first | omega | exact Nat.le_refl _⟩, by repeat (first | exact Drawn0.refl _ | apply Drawn0.step)⟩
           case rest =>
            clear HC15
            try clear c1
            try clear p2
            try clear q2
            try clear hx2
            try clear c3
            try clear c5
            try clear c5b0
            try clear c6
            try clear c6b0
            try clear p6
            try clear c7
            try clear c7b0
            try clear c8
            try clear c8b0
            try clear c9
            try clear c9b0
            try clear c9b1
            try clear c10
            try clear c10b0
            try clear c12
            try clear c12b0
            try clear c13
            try clear c13b0
            try clear c14
            try clear c14b0
            try clear c16
            try clear c16b0
            try clear c16b1
            try clear hx220_0
            try clear hx221_0
            try clear p2
            try clear p220
            try clear p221
            try clear q220
            try clear q221
            obtain ⟨kq, x46_14, rfl, HA, HJ14, ⟨mc14, rfl⟩⟩ := hcut
            cases kq with
            | zero => exact absurd HA.out (by simp [lanyardref04_head.j1])
            | succ kj14 =>
             have H := HA.out
             clear HA
             simp only [lanyardref04_head.j1] at H
             by_cases c17 : x46_14 = true
             ·subst c17
              have H1 : (some (0, 0, 2)) = some (r1, r2, r3) := by rw [if_pos rfl] at H; exact H
              clear H
              have H := H1
              clear H1
              simp only [Option.some.injEq, Prod.mk.injEq] at H
              obtain ⟨rfl, rfl, rfl⟩ := H
              go_wp2
              repeat (go_quiet (fail); try go_wp2)
              go_ret3
              exact ⟨by first | rfl | (simp; done) | (simp only [← hji11] <;> (first | rfl | simp)) | (simp [*]; done), by repeat (first | exact Drawn0.refl _ | apply Drawn0.step)⟩
             ·replace c17 := Bool.eq_false_iff.mpr c17
              subst c17
              have H1 : (if (wrap64 ((wrap64 (a1 + (wrap64 (rd l0 (ji11))))) - 127)) ≥ a2 then (some (0, 0, x9_3)) else (if (wrap64 (rd l0 (ji11))) = 129 then (if 0 ≤ (wrap64 (a1 + 2)) then (if (wrap64 (a1 + 2)) < (l0.length : Int) then (if (rd l0 (wrap64 (a1 + 2))) < 128 then (some (0, 0, 2)) else (some (wrap64 (a1 + 3), wrap64 (rd l0 (wrap64 (a1 + 2))), 0))) else (none)) else (none)) else (if 0 ≤ (wrap64 (a1 + 2)) then (if (wrap64 (a1 + 2)) < (l0.length : Int) then (if (rd l0 (wrap64 (a1 + 2))) = 0 then (some (0, 0, 2)) else (if 0 ≤ (wrap64 (a1 + 3)) then (if (wrap64 (a1 + 3)) < (l0.length : Int) then (some (wrap64 (a1 + 4), wrap64 ((wrap64 ((wrap64 (rd l0 (wrap64 (a1 + 2)))) * 256)) + (wrap64 (rd l0 (wrap64 (a1 + 3))))), 0)) else (none)) else (none))) else (none)) else (none)))) = some (r1, r2, r3) := by rw [if_neg (show ¬ (false = true) by decide)] at H; exact H
              clear H
              have H := H1
              clear H1
              by_cases c18 : (wrap64 ((wrap64 (a1 + (wrap64 (rd l0 (ji11))))) - 127)) ≥ a2
              ·rw [if_pos c18] at H
               have c18b0 : decide (a2 ≤ (wrap64 ((wrap64 (a1 + (wrap64 (rd l0 (ji11))))) - 127))) = true := decide_eq_true c18
               clear c18
               simp only [Option.some.injEq, Prod.mk.injEq] at H
               obtain ⟨rfl, rfl, rfl⟩ := H
               go_wp2
               repeat (go_quiet (fail); try go_wp2)
               go_ret3
               exact ⟨by first | rfl | (simp; done) | (simp only [← hji11] <;> (first | rfl | simp)) | (simp [*]; done), by repeat (first | exact Drawn0.refl _ | apply Drawn0.step)⟩
              ·rw [if_neg c18] at H
               have c18b0 : decide (a2 ≤ (wrap64 ((wrap64 (a1 + (wrap64 (rd l0 (ji11))))) - 127))) = false := decide_eq_false c18
               clear c18
               by_cases c19 : (wrap64 (rd l0 (ji11))) = 129
               ·rw [if_pos c19] at H
                have c19b0 : ((wrap64 (rd l0 (ji11))) == 129) = true := beq_iff_eq.mpr c19
                have c19b1 : ((wrap64 (rd l0 (ji11))) != 129) = false := bne_eq_false_iff_eq.mpr c19
                clear c19
                obtain ⟨ji20, hji20⟩ : ∃ j_ : Int, (wrap64 (a1 + 2)) = j_ := ⟨_, rfl⟩
                replace H : (if 0 ≤ (ji20) then (if (ji20) < (l0.length : Int) then (if (rd l0 (ji20)) < 128 then (some (0, 0, 2)) else (some (wrap64 (a1 + 3), wrap64 (rd l0 (ji20)), 0))) else (none)) else (none)) = some (r1, r2, r3) := by first | (rw [hji20] at H; exact H) | (simp only [hji20] at H ⊢; exact H)
                have hji20w : (IntKind.i64.wrap (a1 + 2)) = ji20 := (i64_w _).trans hji20
                by_cases c21 : 0 ≤ (ji20)
                ·rw [if_pos c21] at H
                 have c21b0 : decide (0 ≤ (ji20)) = true := decide_eq_true c21
                 clear c21
                 by_cases c22 : (ji20) < (l0.length : Int)
                 ·rw [if_pos c22] at H
                  have c22b0 : decide ((ji20) < (l0.length : Int)) = true := decide_eq_true c22
                  clear c22
                  by_cases c23 : (rd l0 (ji20)) < 128
                  ·rw [if_pos c23] at H
                   have c23b0 : decide ((rd l0 (ji20)) < 128) = true := decide_eq_true c23
                   clear c23
                   simp only [Option.some.injEq, Prod.mk.injEq] at H
                   obtain ⟨rfl, rfl, rfl⟩ := H
                   have p222 : 0 ≤ ((ji20) : Int) := of_decide_eq_true (by first | (with_reducible assumption) | assumption)
                   have q222 : (ji20) < (l0.length : Int) := of_decide_eq_true (by first | (with_reducible assumption) | assumption)
                   obtain ⟨ad222, e222, hx222_0⟩ := Kd.at_int HR0.out (ji20) p222 q222
                   obtain rfl : ad220 = ad222 := (by injection e222)
                   replace p222 := eq_true p222
                   replace q222 := eq_true q222
                   go_wp2
                   repeat (go_quiet (fail); try go_wp2)
                   go_ret3
                   exact ⟨by first | rfl | (simp; done) | (simp only [← hji11, ← hji20] <;> (first | rfl | simp)) | (simp [*]; done), by repeat (first | exact Drawn0.refl _ | apply Drawn0.step)⟩
                  ·rw [if_neg c23] at H
                   have c23b0 : decide ((rd l0 (ji20)) < 128) = false := decide_eq_false c23
                   clear c23
                   simp only [Option.some.injEq, Prod.mk.injEq] at H
                   obtain ⟨rfl, rfl, rfl⟩ := H
                   have p222 : 0 ≤ ((ji20) : Int) := of_decide_eq_true (by first | (with_reducible assumption) | assumption)
                   have q222 : (ji20) < (l0.length : Int) := of_decide_eq_true (by first | (with_reducible assumption) | assumption)
                   obtain ⟨ad222, e222, hx222_0⟩ := Kd.at_int HR0.out (ji20) p222 q222
                   obtain rfl : ad220 = ad222 := (by injection e222)
                   replace p222 := eq_true p222
                   replace q222 := eq_true q222
                   have p223 : 0 ≤ ((ji20) : Int) := of_decide_eq_true (by first | (with_reducible assumption) | assumption)
                   have q223 : (ji20) < (l0.length : Int) := of_decide_eq_true (by first | (with_reducible assumption) | assumption)
                   obtain ⟨ad223, e223, hx223_0⟩ := Kd.at_int HR0.out (ji20) p223 q223
                   obtain rfl : ad220 = ad223 := (by injection e223)
                   replace p223 := eq_true p223
                   replace q223 := eq_true q223
                   go_wp2
                   repeat (go_quiet (fail); try go_wp2)
                   go_ret3
                   exact ⟨by first | rfl | (simp; done) | (simp only [← hji11, ← hji20] <;> (first | rfl | simp)) | (simp [*]; done), by repeat (first | exact Drawn0.refl _ | apply Drawn0.step)⟩
                 ·rw [if_neg c22] at H
                  exact absurd H (by simp)
                ·rw [if_neg c21] at H
                 exact absurd H (by simp)
               ·rw [if_neg c19] at H
                have c19b0 : ((wrap64 (rd l0 (ji11))) == 129) = false := beq_eq_false_iff_ne.mpr c19
                have c19b1 : ((wrap64 (rd l0 (ji11))) != 129) = true := bne_iff_ne.mpr c19
                obtain ⟨ji24, hji24⟩ : ∃ j_ : Int, (wrap64 (a1 + 2)) = j_ := ⟨_, rfl⟩
                replace H : (if 0 ≤ (ji24) then (if (ji24) < (l0.length : Int) then (if (rd l0 (ji24)) = 0 then (some (0, 0, 2)) else (if 0 ≤ (wrap64 (a1 + 3)) then (if (wrap64 (a1 + 3)) < (l0.length : Int) then (some (wrap64 (a1 + 4), wrap64 ((wrap64 ((wrap64 (rd l0 (ji24))) * 256)) + (wrap64 (rd l0 (wrap64 (a1 + 3))))), 0)) else (none)) else (none))) else (none)) else (none)) = some (r1, r2, r3) := by first | (rw [hji24] at H; exact H) | (simp only [hji24] at H ⊢; exact H)
                have hji24w : (IntKind.i64.wrap (a1 + 2)) = ji24 := (i64_w _).trans hji24
                by_cases c25 : 0 ≤ (ji24)
                ·rw [if_pos c25] at H
                 have c25b0 : decide (0 ≤ (ji24)) = true := decide_eq_true c25
                 clear c25
                 by_cases c26 : (ji24) < (l0.length : Int)
                 ·rw [if_pos c26] at H
                  have c26b0 : decide ((ji24) < (l0.length : Int)) = true := decide_eq_true c26
                  clear c26
                  by_cases c27 : (rd l0 (ji24)) = 0
                  ·rw [if_pos c27] at H
                   have c27b0 : ((rd l0 (ji24)) == 0) = true := beq_iff_eq.mpr c27
                   have c27b1 : ((rd l0 (ji24)) != 0) = false := bne_eq_false_iff_eq.mpr c27
                   clear c27
                   simp only [Option.some.injEq, Prod.mk.injEq] at H
                   obtain ⟨rfl, rfl, rfl⟩ := H
                   have p224 : 0 ≤ ((ji24) : Int) := of_decide_eq_true (by first | (with_reducible assumption) | assumption)
                   have q224 : (ji24) < (l0.length : Int) := of_decide_eq_true (by first | (with_reducible assumption) | assumption)
                   obtain ⟨ad224, e224, hx224_0⟩ := Kd.at_int HR0.out (ji24) p224 q224
                   obtain rfl : ad220 = ad224 := (by injection e224)
                   replace p224 := eq_true p224
                   replace q224 := eq_true q224
                   go_wp2
                   repeat (go_quiet (fail); try go_wp2)
                   go_ret3
                   exact ⟨by first | rfl | (simp; done) | (simp only [← hji11, ← hji24] <;> (first | rfl | simp)) | (simp [*]; done), by repeat (first | exact Drawn0.refl _ | apply Drawn0.step)⟩
                  ·rw [if_neg c27] at H
                   have c27b0 : ((rd l0 (ji24)) == 0) = false := beq_eq_false_iff_ne.mpr c27
                   have c27b1 : ((rd l0 (ji24)) != 0) = true := bne_iff_ne.mpr c27
                   obtain ⟨ji28, hji28⟩ : ∃ j_ : Int, (wrap64 (a1 + 3)) = j_ := ⟨_, rfl⟩
                   replace H : (if 0 ≤ (ji28) then (if (ji28) < (l0.length : Int) then (some (wrap64 (a1 + 4), wrap64 ((wrap64 ((wrap64 (rd l0 (ji24))) * 256)) + (wrap64 (rd l0 (ji28)))), 0)) else (none)) else (none)) = some (r1, r2, r3) := by first | (rw [hji28] at H; exact H) | (simp only [hji28] at H ⊢; exact H)
                   have hji28w : (IntKind.i64.wrap (a1 + 3)) = ji28 := (i64_w _).trans hji28
                   by_cases c29 : 0 ≤ (ji28)
                   ·rw [if_pos c29] at H
                    have c29b0 : decide (0 ≤ (ji28)) = true := decide_eq_true c29
                    clear c29
                    by_cases c30 : (ji28) < (l0.length : Int)
                    ·rw [if_pos c30] at H
                     have c30b0 : decide ((ji28) < (l0.length : Int)) = true := decide_eq_true c30
                     clear c30
                     simp only [Option.some.injEq, Prod.mk.injEq] at H
                     obtain ⟨rfl, rfl, rfl⟩ := H
                     have p224 : 0 ≤ ((ji24) : Int) := of_decide_eq_true (by first | (with_reducible assumption) | assumption)
                     have q224 : (ji24) < (l0.length : Int) := of_decide_eq_true (by first | (with_reducible assumption) | assumption)
                     obtain ⟨ad224, e224, hx224_0⟩ := Kd.at_int HR0.out (ji24) p224 q224
                     obtain rfl : ad220 = ad224 := (by injection e224)
                     replace p224 := eq_true p224
                     replace q224 := eq_true q224
                     have p225 : 0 ≤ ((ji24) : Int) := of_decide_eq_true (by first | (with_reducible assumption) | assumption)
                     have q225 : (ji24) < (l0.length : Int) := of_decide_eq_true (by first | (with_reducible assumption) | assumption)
                     obtain ⟨ad225, e225, hx225_0⟩ := Kd.at_int HR0.out (ji24) p225 q225
                     obtain rfl : ad220 = ad225 := (by injection e225)
                     replace p225 := eq_true p225
                     replace q225 := eq_true q225
                     have p226 : 0 ≤ ((ji28) : Int) := of_decide_eq_true (by first | (with_reducible assumption) | assumption)
                     have q226 : (ji28) < (l0.length : Int) := of_decide_eq_true (by first | (with_reducible assumption) | assumption)
                     obtain ⟨ad226, e226, hx226_0⟩ := Kd.at_int HR0.out (ji28) p226 q226
                     obtain rfl : ad220 = ad226 := (by injection e226)
                     replace p226 := eq_true p226
                     replace q226 := eq_true q226
                     go_wp2
                     repeat (go_quiet (fail); try go_wp2)
                     go_ret3
                     exact ⟨by first | rfl | (simp; done) | (simp only [← hji11, ← hji24, ← hji28] <;> (first | rfl | simp)) | (simp [*]; done), by repeat (first | exact Drawn0.refl _ | apply Drawn0.step)⟩
                    ·rw [if_neg c30] at H
                     exact absurd H (by simp)
                   ·rw [if_neg c29] at H
                    exact absurd H (by simp)
                 ·rw [if_neg c26] at H
                  exact absurd H (by simp)
                ·rw [if_neg c25] at H
                 exact absurd H (by simp)
         ·rw [if_neg c13] at H
          exact absurd H (by simp)
        ·rw [if_neg c12] at H
         exact absurd H (by simp)
     ·rw [if_neg c8] at H
      exact absurd H (by simp)
    ·rw [if_neg c7] at H
     exact absurd H (by simp)

end Go.Proofs.Ytmbgjhkemlliaaa.PT
end
