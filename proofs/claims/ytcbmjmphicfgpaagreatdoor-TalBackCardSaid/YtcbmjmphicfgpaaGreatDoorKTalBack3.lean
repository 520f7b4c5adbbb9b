/- Merged by a program of this session (wip/tools/pack.py). -/
import Derived.Test.YtcbmjmphicfgpaaGreatDoorKTalBack2
import Derived.Lib.Bytes
section
namespace Go.Proofs.YtcbmjmphicfgpaaGreatDoor.PT
open Go.RowKit Go.Proofs.YtcbmjmphicfgpaaGreatDoorW.PrintWords Go.Proofs.YtcbmjmphicfgpaaGreatDoorW.PrintLast Go.Proofs.YtcbmjmphicfgpaaGreatDoorW.PrintMore
attribute [local go_sem] max2_int min2_int max_two min_two max_three min_three max_four min_four   -- for this text's walks alone
set_option linter.unusedVariables false
set_option linter.unusedSimpArgs false

def scalar_Bits.f (l0 : List Int) (a1 : Int) : Option (Int × List Int × (List (S51)) × Int) := if a1 < 0 then (some (0, ([] : List Int), ([] : List (S51)), 1)) else (if (wrap64 ((wrap64 (8 * (l0.length : Int))) - a1)) < 0 then (some (0, ([] : List Int), ([] : List (S51)), 1)) else (if (wrap64 ((wrap64 (8 * (l0.length : Int))) - a1)) > 7 then (some (0, ([] : List Int), ([] : List (S51)), 1)) else (if (wrap64 ((wrap64 (8 * (l0.length : Int))) - a1)) > 0 then (if 0 ≤ (wrap64 ((l0.length : Int) - 1)) then (if (wrap64 ((l0.length : Int) - 1)) < (l0.length : Int) then (if 0 ≤ (wrap64 ((wrap64 (8 * (l0.length : Int))) - a1)) then (if (Go.bits .and .u8 (rd l0 (wrap64 ((l0.length : Int) - 1))) (((shl .u8 1 (wrap64 ((wrap64 (8 * (l0.length : Int))) - a1))) - 1) % 256)) = 0 then ((some (([(wrap64 ((wrap64 (8 * (l0.length : Int))) - a1)) % 256] : List Int) : List Int)).bind fun y136 => (if y136.length + l0.length < 140737488355328 then (some (3, (y136 ++ l0), ([] : List (S51)), 0)) else (none))) else (some (0, ([] : List Int), ([] : List (S51)), 1))) else (none)) else (none)) else (none)) else ((some (([(wrap64 ((wrap64 (8 * (l0.length : Int))) - a1)) % 256] : List Int) : List Int)).bind fun y142 => (if y142.length + l0.length < 140737488355328 then (some (3, (y142 ++ l0), ([] : List (S51)), 0)) else (none))))))
set_option maxHeartbeats 8000000 in
set_option maxRecDepth 100000 in
theorem scalar_Bits.calls (A0 : Option Addr) (c0 : Nat) (l0 : List Int) (a1 : Int) (r1 : Int) (r2 : List Int) (r3 : List (S51)) (r4 : Int) (w : World) (hr0 : Kd.C (Kd.int .u8) w A0 l0.length l0) (hc0 : l0.length ≤ c0) (h : scalar_Bits.f l0 a1 = some (r1, r2, r3, r4)) :
 Calls Tryz.prog 102 #[.slice A0 l0.length c0, .int .i64 a1] w fun e w' => ∃ v1_ v2_ : Value, e = .returned (.tuple #[.agg #[.int .i64 r1, v1_, v2_], .int .i64 r4]) ∧ Kd.R (Kd.int .u8) 5 w' w.heap.size (fun _ => True) v1_ r2 ∧ Kd.R k51 51 w' w.heap.size (fun k_ => some k_ ≠ (v1_ : Value).ownBlock) v2_ r3 ∧ Below w.heap.size w w' := by
 have hu51 := Tryz.underlying51
 have HR0 := Aside0.mk hr0
 have HC0 := Aside0.mk hc0
 clear hr0 hc0
 have HB := Aside0.mk (Below.refl w.heap.size w)
 have H : (if a1 < 0 then (some (0, ([] : List Int), ([] : List (S51)), 1)) else (if (wrap64 ((wrap64 (8 * (l0.length : Int))) - a1)) < 0 then (some (0, ([] : List Int), ([] : List (S51)), 1)) else (if (wrap64 ((wrap64 (8 * (l0.length : Int))) - a1)) > 7 then (some (0, ([] : List Int), ([] : List (S51)), 1)) else (if (wrap64 ((wrap64 (8 * (l0.length : Int))) - a1)) > 0 then (if 0 ≤ (wrap64 ((l0.length : Int) - 1)) then (if (wrap64 ((l0.length : Int) - 1)) < (l0.length : Int) then (if 0 ≤ (wrap64 ((wrap64 (8 * (l0.length : Int))) - a1)) then (if (Go.bits .and .u8 (rd l0 (wrap64 ((l0.length : Int) - 1))) (((shl .u8 1 (wrap64 ((wrap64 (8 * (l0.length : Int))) - a1))) - 1) % 256)) = 0 then ((some (([(wrap64 ((wrap64 (8 * (l0.length : Int))) - a1)) % 256] : List Int) : List Int)).bind fun y136 => (if y136.length + l0.length < 140737488355328 then (some (3, (y136 ++ l0), ([] : List (S51)), 0)) else (none))) else (some (0, ([] : List Int), ([] : List (S51)), 1))) else (none)) else (none)) else (none)) else ((some (([(wrap64 ((wrap64 (8 * (l0.length : Int))) - a1)) % 256] : List Int) : List Int)).bind fun y142 => (if y142.length + l0.length < 140737488355328 then (some (3, (y142 ++ l0), ([] : List (S51)), 0)) else (none))))))) = some (r1, r2, r3, r4) := h
 clear h
 by_cases c3 : a1 < 0
 ·rw [if_pos c3] at H
  have c3b0 : decide (a1 < 0) = true := decide_eq_true c3
  clear c3
  simp only [Option.some.injEq, Prod.mk.injEq] at H
  obtain ⟨rfl, rfl, rfl, rfl⟩ := H
  go_enter Tryz.func102, Tryz.ntmps102
  go_wp2_with (first | ((with_reducible refine gate_dst (N := 4) rfl ?_); (try (refine gate_guard (by rfl) ?_; dsimp only)); refine box_event ?hg (N := 4) ?hd (cs := #[.int .i64 0, .slice none 0 0, .slice none 0 0]) (t := 51) ?hr ?_; (case hd => rfl); (case hg => rfl); (case hr => first | (go_simp; done) | (go_simp; rfl)); intro gb134 hg w4 hbox hb; have n0_ := Aside0.mk (below_step (by repeat (first | (with_reducible first | exact HB.out | apply below_alloc | apply pw_below_drewN | apply below_drew1) | exact HB.out)) hb); have n1_ := Aside0.mk (hbox); have n2_ := Aside0.mk ((by rw [hg]; exact (below_size (by repeat (first | (with_reducible first | exact HB.out | apply below_alloc | apply pw_below_drewN | apply below_drew1) | exact HB.out))) : w.heap.size ≤ gb134)); have n3_ := Aside0.mk ((by rw [hg]; exact (below_size (by repeat (first | (with_reducible first | exact HB.out | apply below_alloc | apply pw_below_drewN | apply below_drew1) | exact HB.out))) : w.heap.size ≤ gb134)); clear HB; have HB := n0_; have BK134 := n1_; have GW134 := n2_; have GE134 := n3_; clear n0_ n1_ n2_ n3_; clear hb hbox hg; have hcz5_0 : w4.cell? ⟨gb134, 0, none⟩ = some (.int .i64 0) := (blk_cell BK134.out 0).trans rfl; have hcz5_1 : w4.cell? ⟨gb134, 1, none⟩ = some (.slice none 0 0) := (blk_cell BK134.out 1).trans rfl; have hcz5_2 : w4.cell? ⟨gb134, 2, none⟩ = some (.slice none 0 0) := (blk_cell BK134.out 2).trans rfl; have hfz5_0 := blk_frozen BK134.out 0; have hfz5_1 := blk_frozen BK134.out 1; have hfz5_2 := blk_frozen BK134.out 2))
  repeat (go_quiet (first | ((with_reducible refine gate_dst (N := 4) rfl ?_); (try (refine gate_guard (by rfl) ?_; dsimp only)); refine box_event ?hg (N := 4) ?hd (cs := #[.int .i64 0, .slice none 0 0, .slice none 0 0]) (t := 51) ?hr ?_; (case hd => rfl); (case hg => rfl); (case hr => first | (go_simp; done) | (go_simp; rfl)); intro gb134 hg w4 hbox hb; have n0_ := Aside0.mk (below_step (by repeat (first | (with_reducible first | exact HB.out | apply below_alloc | apply pw_below_drewN | apply below_drew1) | exact HB.out)) hb); have n1_ := Aside0.mk (hbox); have n2_ := Aside0.mk ((by rw [hg]; exact (below_size (by repeat (first | (with_reducible first | exact HB.out | apply below_alloc | apply pw_below_drewN | apply below_drew1) | exact HB.out))) : w.heap.size ≤ gb134)); have n3_ := Aside0.mk ((by rw [hg]; exact (below_size (by repeat (first | (with_reducible first | exact HB.out | apply below_alloc | apply pw_below_drewN | apply below_drew1) | exact HB.out))) : w.heap.size ≤ gb134)); clear HB; have HB := n0_; have BK134 := n1_; have GW134 := n2_; have GE134 := n3_; clear n0_ n1_ n2_ n3_; clear hb hbox hg; have hcz5_0 : w4.cell? ⟨gb134, 0, none⟩ = some (.int .i64 0) := (blk_cell BK134.out 0).trans rfl; have hcz5_1 : w4.cell? ⟨gb134, 1, none⟩ = some (.slice none 0 0) := (blk_cell BK134.out 1).trans rfl; have hcz5_2 : w4.cell? ⟨gb134, 2, none⟩ = some (.slice none 0 0) := (blk_cell BK134.out 2).trans rfl; have hfz5_0 := blk_frozen BK134.out 0; have hfz5_1 := blk_frozen BK134.out 1; have hfz5_2 := blk_frozen BK134.out 2)); try go_wp2_with (first | ((with_reducible refine gate_dst (N := 4) rfl ?_); (try (refine gate_guard (by rfl) ?_; dsimp only)); refine box_event ?hg (N := 4) ?hd (cs := #[.int .i64 0, .slice none 0 0, .slice none 0 0]) (t := 51) ?hr ?_; (case hd => rfl); (case hg => rfl); (case hr => first | (go_simp; done) | (go_simp; rfl)); intro gb134 hg w4 hbox hb; have n0_ := Aside0.mk (below_step (by repeat (first | (with_reducible first | exact HB.out | apply below_alloc | apply pw_below_drewN | apply below_drew1) | exact HB.out)) hb); have n1_ := Aside0.mk (hbox); have n2_ := Aside0.mk ((by rw [hg]; exact (below_size (by repeat (first | (with_reducible first | exact HB.out | apply below_alloc | apply pw_below_drewN | apply below_drew1) | exact HB.out))) : w.heap.size ≤ gb134)); have n3_ := Aside0.mk ((by rw [hg]; exact (below_size (by repeat (first | (with_reducible first | exact HB.out | apply below_alloc | apply pw_below_drewN | apply below_drew1) | exact HB.out))) : w.heap.size ≤ gb134)); clear HB; have HB := n0_; have BK134 := n1_; have GW134 := n2_; have GE134 := n3_; clear n0_ n1_ n2_ n3_; clear hb hbox hg; have hcz5_0 : w4.cell? ⟨gb134, 0, none⟩ = some (.int .i64 0) := (blk_cell BK134.out 0).trans rfl; have hcz5_1 : w4.cell? ⟨gb134, 1, none⟩ = some (.slice none 0 0) := (blk_cell BK134.out 1).trans rfl; have hcz5_2 : w4.cell? ⟨gb134, 2, none⟩ = some (.slice none 0 0) := (blk_cell BK134.out 2).trans rfl; have hfz5_0 := blk_frozen BK134.out 0; have hfz5_1 := blk_frozen BK134.out 1; have hfz5_2 := blk_frozen BK134.out 2)))
  refine bodyPost_ret (results_ct rfl _ _ gb134 51 #[.int .i64 0, .slice none 0 0, .slice none 0 0] (0, 0) _ rfl (by (with_reducible repeat (first | refine blk_drewN ?_ _ | refine blk_drew ?_ | refine blk_alloc ?_ _)); refine blk_put (cs := #[.int .i64 0, .slice none 0 0, .slice none 0 0]) ?_ 2 _ rfl; (with_reducible repeat (first | refine blk_drewN ?_ _ | refine blk_drew ?_ | refine blk_alloc ?_ _)); refine blk_put (cs := #[.int .i64 0, .slice none 0 0, .slice none 0 0]) ?_ 1 _ rfl; (with_reducible repeat (first | refine blk_drewN ?_ _ | refine blk_drew ?_ | refine blk_alloc ?_ _)); refine blk_put (cs := #[.int .i64 0, .slice none 0 0, .slice none 0 0]) ?_ 0 _ rfl; (with_reducible repeat (first | refine blk_drewN ?_ _ | refine blk_drew ?_ | refine blk_alloc ?_ _)); exact BK134.out) Tryz.underlying51 rfl (by kernel_rfl)) rfl ?_
  exact ⟨_, _, by first | rfl | (simp [errW_none, errW_some] <;> rfl) | (simp [*, errW_none, errW_some] <;> rfl), by first | exact Kd.R_nil _ _ _ _ _ | exact Kd.N_nil _ _ _ _ _ | exact Kd.V_nil _ _ _ _ _ | exact Kd.Q_nil _ _ _ _ _ | exact Kd.S_nil _ _ _ _ _, by first | exact Kd.R_nil _ _ _ _ _ | exact Kd.N_nil _ _ _ _ _ | exact Kd.V_nil _ _ _ _ _ | exact Kd.Q_nil _ _ _ _ _ | exact Kd.S_nil _ _ _ _ _, by repeat (first | (with_reducible first | exact HB.out | apply below_alloc | apply pw_below_drewN | apply below_drew1 | refine below_set ?_ GE134.out) | exact HB.out)⟩
 ·rw [if_neg c3] at H
  have c3b0 : decide (a1 < 0) = false := decide_eq_false c3
  clear c3
  by_cases c6 : (wrap64 ((wrap64 (8 * (l0.length : Int))) - a1)) < 0
  ·rw [if_pos c6] at H
   have c6b0 : decide ((wrap64 ((wrap64 (8 * (l0.length : Int))) - a1)) < 0) = true := decide_eq_true c6
   clear c6
   simp only [Option.some.injEq, Prod.mk.injEq] at H
   obtain ⟨rfl, rfl, rfl, rfl⟩ := H
   go_enter Tryz.func102, Tryz.ntmps102
   go_wp2_with (first | ((with_reducible refine gate_dst (N := 4) rfl ?_); (try (refine gate_guard (by rfl) ?_; dsimp only)); refine box_event ?hg (N := 4) ?hd (cs := #[.int .i64 0, .slice none 0 0, .slice none 0 0]) (t := 51) ?hr ?_; (case hd => rfl); (case hg => rfl); (case hr => first | (go_simp; done) | (go_simp; rfl)); intro gb134 hg w7 hbox hb; have n0_ := Aside0.mk (below_step (by repeat (first | (with_reducible first | exact HB.out | apply below_alloc | apply pw_below_drewN | apply below_drew1) | exact HB.out)) hb); have n1_ := Aside0.mk (hbox); have n2_ := Aside0.mk ((by rw [hg]; exact (below_size (by repeat (first | (with_reducible first | exact HB.out | apply below_alloc | apply pw_below_drewN | apply below_drew1) | exact HB.out))) : w.heap.size ≤ gb134)); have n3_ := Aside0.mk ((by rw [hg]; exact (below_size (by repeat (first | (with_reducible first | exact HB.out | apply below_alloc | apply pw_below_drewN | apply below_drew1) | exact HB.out))) : w.heap.size ≤ gb134)); clear HB; have HB := n0_; have BK134 := n1_; have GW134 := n2_; have GE134 := n3_; clear n0_ n1_ n2_ n3_; clear hb hbox hg; have hcz8_0 : w7.cell? ⟨gb134, 0, none⟩ = some (.int .i64 0) := (blk_cell BK134.out 0).trans rfl; have hcz8_1 : w7.cell? ⟨gb134, 1, none⟩ = some (.slice none 0 0) := (blk_cell BK134.out 1).trans rfl; have hcz8_2 : w7.cell? ⟨gb134, 2, none⟩ = some (.slice none 0 0) := (blk_cell BK134.out 2).trans rfl; have hfz8_0 := blk_frozen BK134.out 0; have hfz8_1 := blk_frozen BK134.out 1; have hfz8_2 := blk_frozen BK134.out 2))
   repeat (go_quiet (first | ((with_reducible refine gate_dst (N := 4) rfl ?_); (try (refine gate_guard (by rfl) ?_; dsimp only)); refine box_event ?hg (N := 4) ?hd (cs := #[.int .i64 0, .slice none 0 0, .slice none 0 0]) (t := 51) ?hr ?_; (case hd => rfl); (case hg => rfl); (case hr => first | (go_simp; done) | (go_simp; rfl)); intro gb134 hg w7 hbox hb; have n0_ := Aside0.mk (below_step (by repeat (first | (with_reducible first | exact HB.out | apply below_alloc | apply pw_below_drewN | apply below_drew1) | exact HB.out)) hb); have n1_ := Aside0.mk (hbox); have n2_ := Aside0.mk ((by rw [hg]; exact (below_size (by repeat (first | (with_reducible first | exact HB.out | apply below_alloc | apply pw_below_drewN | apply below_drew1) | exact HB.out))) : w.heap.size ≤ gb134)); have n3_ := Aside0.mk ((by rw [hg]; exact (below_size (by repeat (first | (with_reducible first | exact HB.out | apply below_alloc | apply pw_below_drewN | apply below_drew1) | exact HB.out))) : w.heap.size ≤ gb134)); clear HB; have HB := n0_; have BK134 := n1_; have GW134 := n2_; have GE134 := n3_; clear n0_ n1_ n2_ n3_; clear hb hbox hg; have hcz8_0 : w7.cell? ⟨gb134, 0, none⟩ = some (.int .i64 0) := (blk_cell BK134.out 0).trans rfl; have hcz8_1 : w7.cell? ⟨gb134, 1, none⟩ = some (.slice none 0 0) := (blk_cell BK134.out 1).trans rfl; have hcz8_2 : w7.cell? ⟨gb134, 2, none⟩ = some (.slice none 0 0) := (blk_cell BK134.out 2).trans rfl; have hfz8_0 := blk_frozen BK134.out 0; have hfz8_1 := blk_frozen BK134.out 1; have hfz8_2 := blk_frozen BK134.out 2)); try go_wp2_with (first | ((with_reducible refine gate_dst (N := 4) rfl ?_); (try (refine gate_guard (by rfl) ?_; dsimp only)); refine box_event ?hg (N := 4) ?hd (cs := #[.int .i64 0, .slice none 0 0, .slice none 0 0]) (t := 51) ?hr ?_; (case hd => rfl); (case hg => rfl); (case hr => first | (go_simp; done) | (go_simp; rfl)); intro gb134 hg w7 hbox hb; have n0_ := Aside0.mk (below_step (by repeat (first | (with_reducible first | exact HB.out | apply below_alloc | apply pw_below_drewN | apply below_drew1) | exact HB.out)) hb); have n1_ := Aside0.mk (hbox); have n2_ := Aside0.mk ((by rw [hg]; exact (below_size (by repeat (first | (with_reducible first | exact HB.out | apply below_alloc | apply pw_below_drewN | apply below_drew1) | exact HB.out))) : w.heap.size ≤ gb134)); have n3_ := Aside0.mk ((by rw [hg]; exact (below_size (by repeat (first | (with_reducible first | exact HB.out | apply below_alloc | apply pw_below_drewN | apply below_drew1) | exact HB.out))) : w.heap.size ≤ gb134)); clear HB; have HB := n0_; have BK134 := n1_; have GW134 := n2_; have GE134 := n3_; clear n0_ n1_ n2_ n3_; clear hb hbox hg; have hcz8_0 : w7.cell? ⟨gb134, 0, none⟩ = some (.int .i64 0) := (blk_cell BK134.out 0).trans rfl; have hcz8_1 : w7.cell? ⟨gb134, 1, none⟩ = some (.slice none 0 0) := (blk_cell BK134.out 1).trans rfl; have hcz8_2 : w7.cell? ⟨gb134, 2, none⟩ = some (.slice none 0 0) := (blk_cell BK134.out 2).trans rfl; have hfz8_0 := blk_frozen BK134.out 0; have hfz8_1 := blk_frozen BK134.out 1; have hfz8_2 := blk_frozen BK134.out 2)))
   refine bodyPost_ret (results_ct rfl _ _ gb134 51 #[.int .i64 0, .slice none 0 0, .slice none 0 0] (0, 0) _ rfl (by (with_reducible repeat (first | refine blk_drewN ?_ _ | refine blk_drew ?_ | refine blk_alloc ?_ _)); refine blk_put (cs := #[.int .i64 0, .slice none 0 0, .slice none 0 0]) ?_ 2 _ rfl; (with_reducible repeat (first | refine blk_drewN ?_ _ | refine blk_drew ?_ | refine blk_alloc ?_ _)); refine blk_put (cs := #[.int .i64 0, .slice none 0 0, .slice none 0 0]) ?_ 1 _ rfl; (with_reducible repeat (first | refine blk_drewN ?_ _ | refine blk_drew ?_ | refine blk_alloc ?_ _)); refine blk_put (cs := #[.int .i64 0, .slice none 0 0, .slice none 0 0]) ?_ 0 _ rfl; (with_reducible repeat (first | refine blk_drewN ?_ _ | refine blk_drew ?_ | refine blk_alloc ?_ _)); exact BK134.out) Tryz.underlying51 rfl (by kernel_rfl)) rfl ?_
   exact ⟨_, _, by first | rfl | (simp [errW_none, errW_some] <;> rfl) | (simp [*, errW_none, errW_some] <;> rfl), by first | exact Kd.R_nil _ _ _ _ _ | exact Kd.N_nil _ _ _ _ _ | exact Kd.V_nil _ _ _ _ _ | exact Kd.Q_nil _ _ _ _ _ | exact Kd.S_nil _ _ _ _ _, by first | exact Kd.R_nil _ _ _ _ _ | exact Kd.N_nil _ _ _ _ _ | exact Kd.V_nil _ _ _ _ _ | exact Kd.Q_nil _ _ _ _ _ | exact Kd.S_nil _ _ _ _ _, by repeat (first | (with_reducible first | exact HB.out | apply below_alloc | apply pw_below_drewN | apply below_drew1 | refine below_set ?_ GE134.out) | exact HB.out)⟩
  ·rw [if_neg c6] at H
   have c6b0 : decide ((wrap64 ((wrap64 (8 * (l0.length : Int))) - a1)) < 0) = false := decide_eq_false c6
   clear c6
   by_cases c9 : (wrap64 ((wrap64 (8 * (l0.length : Int))) - a1)) > 7
   ·rw [if_pos c9] at H
    have c9b0 : decide (7 < (wrap64 ((wrap64 (8 * (l0.length : Int))) - a1))) = true := decide_eq_true c9
    clear c9
    simp only [Option.some.injEq, Prod.mk.injEq] at H
    obtain ⟨rfl, rfl, rfl, rfl⟩ := H
    go_enter Tryz.func102, Tryz.ntmps102
    go_wp2_with (first | ((with_reducible refine gate_dst (N := 4) rfl ?_); (try (refine gate_guard (by rfl) ?_; dsimp only)); refine box_event ?hg (N := 4) ?hd (cs := #[.int .i64 0, .slice none 0 0, .slice none 0 0]) (t := 51) ?hr ?_; (case hd => rfl); (case hg => rfl); (case hr => first | (go_simp; done) | (go_simp; rfl)); intro gb134 hg w10 hbox hb; have n0_ := Aside0.mk (below_step (by repeat (first | (with_reducible first | exact HB.out | apply below_alloc | apply pw_below_drewN | apply below_drew1) | exact HB.out)) hb); have n1_ := Aside0.mk (hbox); have n2_ := Aside0.mk ((by rw [hg]; exact (below_size (by repeat (first | (with_reducible first | exact HB.out | apply below_alloc | apply pw_below_drewN | apply below_drew1) | exact HB.out))) : w.heap.size ≤ gb134)); have n3_ := Aside0.mk ((by rw [hg]; exact (below_size (by repeat (first | (with_reducible first | exact HB.out | apply below_alloc | apply pw_below_drewN | apply below_drew1) | exact HB.out))) : w.heap.size ≤ gb134)); clear HB; have HB := n0_; have BK134 := n1_; have GW134 := n2_; have GE134 := n3_; clear n0_ n1_ n2_ n3_; clear hb hbox hg; have hcz11_0 : w10.cell? ⟨gb134, 0, none⟩ = some (.int .i64 0) := (blk_cell BK134.out 0).trans rfl; have hcz11_1 : w10.cell? ⟨gb134, 1, none⟩ = some (.slice none 0 0) := (blk_cell BK134.out 1).trans rfl; have hcz11_2 : w10.cell? ⟨gb134, 2, none⟩ = some (.slice none 0 0) := (blk_cell BK134.out 2).trans rfl; have hfz11_0 := blk_frozen BK134.out 0; have hfz11_1 := blk_frozen BK134.out 1; have hfz11_2 := blk_frozen BK134.out 2))
    repeat (go_quiet (first | ((with_reducible refine gate_dst (N := 4) rfl ?_); (try (refine gate_guard (by rfl) ?_; dsimp only)); refine box_event ?hg (N := 4) ?hd (cs := #[.int .i64 0, .slice none 0 0, .slice none 0 0]) (t := 51) ?hr ?_; (case hd => rfl); (case hg => rfl); (case hr => first | (go_simp; done) | (go_simp; rfl)); intro gb134 hg w10 hbox hb; have n0_ := Aside0.mk (below_step (by repeat (first | (with_reducible first | exact HB.out | apply below_alloc | apply pw_below_drewN | apply below_drew1) | exact HB.out)) hb); have n1_ := Aside0.mk (hbox); have n2_ := Aside0.mk ((by rw [hg]; exact (below_size (by repeat (first | (with_reducible first | exact HB.out | apply below_alloc | apply pw_below_drewN | apply below_drew1) | exact HB.out))) : w.heap.size ≤ gb134)); have n3_ := Aside0.mk ((by rw [hg]; exact (below_size (by repeat (first | (with_reducible first | exact HB.out | apply below_alloc | apply pw_below_drewN | apply below_drew1) | exact HB.out))) : w.heap.size ≤ gb134)); clear HB; have HB := n0_; have BK134 := n1_; have GW134 := n2_; have GE134 := n3_; clear n0_ n1_ n2_ n3_; clear hb hbox hg; have hcz11_0 : w10.cell? ⟨gb134, 0, none⟩ = some (.int .i64 0) := (blk_cell BK134.out 0).trans rfl; have hcz11_1 : w10.cell? ⟨gb134, 1, none⟩ = some (.slice none 0 0) := (blk_cell BK134.out 1).trans rfl; have hcz11_2 : w10.cell? ⟨gb134, 2, none⟩ = some (.slice none 0 0) := (blk_cell BK134.out 2).trans rfl; have hfz11_0 := blk_frozen BK134.out 0; have hfz11_1 := blk_frozen BK134.out 1; have hfz11_2 := blk_frozen BK134.out 2)); try go_wp2_with (first | ((with_reducible refine gate_dst (N := 4) rfl ?_); (try (refine gate_guard (by rfl) ?_; dsimp only)); refine box_event ?hg (N := 4) ?hd (cs := #[.int .i64 0, .slice none 0 0, .slice none 0 0]) (t := 51) ?hr ?_; (case hd => rfl); (case hg => rfl); (case hr => first | (go_simp; done) | (go_simp; rfl)); intro gb134 hg w10 hbox hb; have n0_ := Aside0.mk (below_step (by repeat (first | (with_reducible first | exact HB.out | apply below_alloc | apply pw_below_drewN | apply below_drew1) | exact HB.out)) hb); have n1_ := Aside0.mk (hbox); have n2_ := Aside0.mk ((by rw [hg]; exact (below_size (by repeat (first | (with_reducible first | exact HB.out | apply below_alloc | apply pw_below_drewN | apply below_drew1) | exact HB.out))) : w.heap.size ≤ gb134)); have n3_ := Aside0.mk ((by rw [hg]; exact (below_size (by repeat (first | (with_reducible first | exact HB.out | apply below_alloc | apply pw_below_drewN | apply below_drew1) | exact HB.out))) : w.heap.size ≤ gb134)); clear HB; have HB := n0_; have BK134 := n1_; have GW134 := n2_; have GE134 := n3_; clear n0_ n1_ n2_ n3_; clear hb hbox hg; have hcz11_0 : w10.cell? ⟨gb134, 0, none⟩ = some (.int .i64 0) := (blk_cell BK134.out 0).trans rfl; have hcz11_1 : w10.cell? ⟨gb134, 1, none⟩ = some (.slice none 0 0) := (blk_cell BK134.out 1).trans rfl; have hcz11_2 : w10.cell? ⟨gb134, 2, none⟩ = some (.slice none 0 0) := (blk_cell BK134.out 2).trans rfl; have hfz11_0 := blk_frozen BK134.out 0; have hfz11_1 := blk_frozen BK134.out 1; have hfz11_2 := blk_frozen BK134.out 2)))
    refine bodyPost_ret (results_ct rfl _ _ gb134 51 #[.int .i64 0, .slice none 0 0, .slice none 0 0] (0, 0) _ rfl (by (with_reducible repeat (first | refine blk_drewN ?_ _ | refine blk_drew ?_ | refine blk_alloc ?_ _)); refine blk_put (cs := #[.int .i64 0, .slice none 0 0, .slice none 0 0]) ?_ 2 _ rfl; (with_reducible repeat (first | refine blk_drewN ?_ _ | refine blk_drew ?_ | refine blk_alloc ?_ _)); refine blk_put (cs := #[.int .i64 0, .slice none 0 0, .slice none 0 0]) ?_ 1 _ rfl; (with_reducible repeat (first | refine blk_drewN ?_ _ | refine blk_drew ?_ | refine blk_alloc ?_ _)); refine blk_put (cs := #[.int .i64 0, .slice none 0 0, .slice none 0 0]) ?_ 0 _ rfl; (with_reducible repeat (first | refine blk_drewN ?_ _ | refine blk_drew ?_ | refine blk_alloc ?_ _)); exact BK134.out) Tryz.underlying51 rfl (by kernel_rfl)) rfl ?_
    exact ⟨_, _, by first | rfl | (simp [errW_none, errW_some] <;> rfl) | (simp [*, errW_none, errW_some] <;> rfl), by first | exact Kd.R_nil _ _ _ _ _ | exact Kd.N_nil _ _ _ _ _ | exact Kd.V_nil _ _ _ _ _ | exact Kd.Q_nil _ _ _ _ _ | exact Kd.S_nil _ _ _ _ _, by first | exact Kd.R_nil _ _ _ _ _ | exact Kd.N_nil _ _ _ _ _ | exact Kd.V_nil _ _ _ _ _ | exact Kd.Q_nil _ _ _ _ _ | exact Kd.S_nil _ _ _ _ _, by repeat (first | (with_reducible first | exact HB.out | apply below_alloc | apply pw_below_drewN | apply below_drew1 | refine below_set ?_ GE134.out) | exact HB.out)⟩
   ·rw [if_neg c9] at H
    have c9b0 : decide (7 < (wrap64 ((wrap64 (8 * (l0.length : Int))) - a1))) = false := decide_eq_false c9
    clear c9
    by_cases c12 : (wrap64 ((wrap64 (8 * (l0.length : Int))) - a1)) > 0
    ·rw [if_pos c12] at H
     have c12b0 : decide (0 < (wrap64 ((wrap64 (8 * (l0.length : Int))) - a1))) = true := decide_eq_true c12
     clear c12
     obtain ⟨ji13, hji13⟩ : ∃ j_ : Int, (wrap64 ((l0.length : Int) - 1)) = j_ := ⟨_, rfl⟩
     replace H : (if 0 ≤ (ji13) then (if (ji13) < (l0.length : Int) then (if 0 ≤ (wrap64 ((wrap64 (8 * (l0.length : Int))) - a1)) then (if (Go.bits .and .u8 (rd l0 (ji13)) (((shl .u8 1 (wrap64 ((wrap64 (8 * (l0.length : Int))) - a1))) - 1) % 256)) = 0 then ((some (([(wrap64 ((wrap64 (8 * (l0.length : Int))) - a1)) % 256] : List Int) : List Int)).bind fun y136 => (if y136.length + l0.length < 140737488355328 then (some (3, (y136 ++ l0), ([] : List (S51)), 0)) else (none))) else (some (0, ([] : List Int), ([] : List (S51)), 1))) else (none)) else (none)) else (none)) = some (r1, r2, r3, r4) := by first | (rw [hji13] at H; exact H) | (simp only [hji13] at H ⊢; exact H)
     have hji13w : (IntKind.i64.wrap ((l0.length : Int) - 1)) = ji13 := (i64_w _).trans hji13
     by_cases c14 : 0 ≤ (ji13)
     ·rw [if_pos c14] at H
      have c14b0 : decide (0 ≤ (ji13)) = true := decide_eq_true c14
      clear c14
      by_cases c15 : (ji13) < (l0.length : Int)
      ·rw [if_pos c15] at H
       have c15b0 : decide ((ji13) < (l0.length : Int)) = true := decide_eq_true c15
       clear c15
       obtain ⟨ji16, hji16⟩ : ∃ j_ : Int, (wrap64 ((wrap64 (8 * (l0.length : Int))) - a1)) = j_ := ⟨_, rfl⟩
       replace H : (if 0 ≤ (ji16) then (if (Go.bits .and .u8 (rd l0 (ji13)) (((shl .u8 1 (ji16)) - 1) % 256)) = 0 then ((some (([(ji16) % 256] : List Int) : List Int)).bind fun y136 => (if y136.length + l0.length < 140737488355328 then (some (3, (y136 ++ l0), ([] : List (S51)), 0)) else (none))) else (some (0, ([] : List Int), ([] : List (S51)), 1))) else (none)) = some (r1, r2, r3, r4) := by first | (rw [hji16] at H; exact H) | (simp only [hji16] at H ⊢; exact H)
       (try rw [hji16] at c6b0)
       (try rw [hji16] at c9b0)
       (try rw [hji16] at c12b0)
       have hji16w : (IntKind.i64.wrap ((wrap64 (8 * (l0.length : Int))) - a1)) = ji16 := (i64_w _).trans hji16
       by_cases c17 : 0 ≤ (ji16)
       ·rw [if_pos c17] at H
        have c17b0 := eq_true c17
        have c17b1 : decide (0 ≤ (ji16)) = true := decide_eq_true c17
        clear c17
        obtain ⟨ji18, hji18⟩ : ∃ j_ : Int, (shl .u8 1 (ji16)) = j_ := ⟨_, rfl⟩
        replace H : (if (Go.bits .and .u8 (rd l0 (ji13)) (((ji18) - 1) % 256)) = 0 then ((some (([(ji16) % 256] : List Int) : List Int)).bind fun y136 => (if y136.length + l0.length < 140737488355328 then (some (3, (y136 ++ l0), ([] : List (S51)), 0)) else (none))) else (some (0, ([] : List Int), ([] : List (S51)), 1))) = some (r1, r2, r3, r4) := by first | (rw [hji18] at H; exact H) | (simp only [hji18] at H ⊢; exact H)
        have hji18_ : (IntKind.u8.wrap (1 * 2 ^ min (ji16).toNat 8)) = ji18 := hji18
        have hji18z : (ji16) ≤ 8 → (IntKind.u8.wrap (1 * 2 ^ (ji16).toNat)) = ji18 := shl_small hji18
        have hji18u : (IntKind.u8.wrap (2 ^ min (ji16).toNat 8)) = ji18 := by have h_ := hji18_; rw [Int.one_mul] at h_; exact h_
        have hji18v : (ji16) ≤ 8 → (IntKind.u8.wrap (2 ^ (ji16).toNat)) = ji18 := fun hle_ => by have h_ := hji18z hle_; rw [Int.one_mul] at h_; exact h_
        by_cases c19 : (Go.bits .and .u8 (rd l0 (ji13)) (((ji18) - 1) % 256)) = 0
        ·rw [if_pos c19] at H
         have c19b0 : ((Go.bits .and .u8 (rd l0 (ji13)) (((ji18) - 1) % 256)) == 0) = true := beq_iff_eq.mpr c19
         have c19b1 : ((Go.bits .and .u8 (rd l0 (ji13)) (((ji18) - 1) % 256)) != 0) = false := bne_eq_false_iff_eq.mpr c19
         clear c19
         obtain ⟨y136, hy136⟩ : ∃ y_ : List Int, y_ = (([(ji16) % 256] : List Int)) := ⟨_, rfl⟩
         replace H : (if y136.length + l0.length < 140737488355328 then (some (3, (y136 ++ l0), ([] : List (S51)), 0)) else (none)) = some (r1, r2, r3, r4) := by first | (rw [hy136]; with_reducible exact H) | (have H2_ := (Option.bind_some _ _).symm.trans H; rw [hy136]; with_reducible exact H2_) | (have H2_ := (Option.bind_some _ _).symm.trans H; with_reducible exact H2_) | with_reducible exact H | (rw [hy136]; exact H) | exact H
         have Ny136 := Aside0.mk hy136
         clear hy136
         by_cases c20 : y136.length + l0.length < 140737488355328
         ·rw [if_pos c20] at H
          have LMc20 := Aside0.mk c20
          clear c20
          obtain ⟨y139, hy139⟩ : ∃ y_ : List Int, y_ = (y136 ++ l0) := ⟨_, rfl⟩
          replace H : (some (3, y139, ([] : List (S51)), 0)) = some (r1, r2, r3, r4) := by first | (rw [hy139]; with_reducible exact H) | (have H2_ := (Option.bind_some _ _).symm.trans H; rw [hy139]; with_reducible exact H2_) | (have H2_ := (Option.bind_some _ _).symm.trans H; with_reducible exact H2_) | with_reducible exact H | (rw [hy139]; exact H) | exact H
          have Ny139 := Aside0.mk hy139
          clear hy139
          simp only [Option.some.injEq, Prod.mk.injEq] at H
          obtain ⟨rfl, rfl, rfl, rfl⟩ := H
          go_enter Tryz.func102, Tryz.ntmps102
          go_wp2_with (first | ((with_reducible refine gate_dst (N := 4) rfl ?_); (try (refine gate_guard (by rfl) ?_; dsimp only)); refine box_event ?hg (N := 4) ?hd (cs := #[.int .i64 0, .slice none 0 0, .slice none 0 0]) (t := 51) ?hr ?_; (case hd => rfl); (case hg => rfl); (case hr => first | (go_simp; done) | (go_simp; rfl)); intro gb134 hg w21 hbox hb; have n0_ := Aside0.mk (below_step (by repeat (first | (with_reducible first | exact HB.out | apply below_alloc | apply pw_below_drewN | apply below_drew1) | exact HB.out)) hb); have n1_ := Aside0.mk (hbox); have n2_ := Aside0.mk ((by rw [hg]; exact (below_size (by repeat (first | (with_reducible first | exact HB.out | apply below_alloc | apply pw_below_drewN | apply below_drew1) | exact HB.out))) : w.heap.size ≤ gb134)); have n3_ := Aside0.mk ((by rw [hg]; exact (below_size (by repeat (first | (with_reducible first | exact HB.out | apply below_alloc | apply pw_below_drewN | apply below_drew1) | exact HB.out))) : w.heap.size ≤ gb134)); clear HB; have HB := n0_; have BK134 := n1_; have GW134 := n2_; have GE134 := n3_; clear n0_ n1_ n2_ n3_; clear hb hbox hg; have p135 : 0 ≤ ((ji13) : Int) := of_decide_eq_true (by first | (with_reducible assumption) | assumption); have q135 : (ji13) < (l0.length : Int) := of_decide_eq_true (by first | (with_reducible assumption) | assumption); obtain ⟨ad135, e135, hx135_0⟩ := Kd.at_int HR0.out (ji13) p135 q135; cases e135; replace hx135_0 := (HB.out.cell (World.block_lt_of_cell? w _ hx135_0)).trans hx135_0; replace p135 := eq_true p135; replace q135 := eq_true q135) | ((with_reducible refine gate_dst (N := 42) rfl ?_); (try (refine gate_guard (by rfl) ?_; dsimp only)); refine Kd.R_lit (Kd.int .u8) _ 5 ?hg (N := 42) ?hd (xs := ([(ji16) % 256] : List Int)) (inner := [.int .u8 ((ji16) % 256)]) (ok := fun _ => True) (okp := fun _ => True) ?hr ?hp (fun _ hk => hk) trivial (Below.refl _ _) (Nat.le_refl _) (by simp) ?_; (case hd => rfl); (case hg => rfl); (case hr => first | (go_simp; done) | (go_simp; rfl)); (case hp => exact (Reps.one (show Kd.M (Kd.int .u8) _ _ _ ((ji16) % 256) [.int .u8 ((ji16) % 256)] from rfl) (Reps.none _ _))); intro v137 w22 ho23 hb hg_ hnew_; clear hg_ hnew_; (first | rw [← Ny136.out] at ho23 | (simp only [Int.reduceToNat] at ho23; rw [← Ny136.out] at ho23)); have n0_ := Aside0.mk (Kd.R_lower ho23 (below_size (by repeat (first | (with_reducible first | exact HB.out | apply below_alloc | apply pw_below_drewN | apply below_drew1 | refine below_set ?_ GE134.out) | exact HB.out)))); have n1_ := Aside0.mk (blk_below (g := gb134) (o := .cells #[.int .i64 0, .slice none 0 0, .slice none 0 0] 51 (0, 0)) (by (with_reducible repeat (first | refine blk_drewN ?_ _ | refine blk_drew ?_ | refine blk_alloc ?_ _)); exact BK134.out) hb); have n2_ := Aside0.mk (below_step (by repeat (first | (with_reducible first | exact HB.out | apply below_alloc | apply pw_below_drewN | apply below_drew1 | refine below_set ?_ GE134.out) | exact HB.out)) hb); clear BK134; clear HB; have HO138 := n0_; have BK134 := n1_; have HB := n2_; clear n0_ n1_ n2_; clear hb ho23) | ((with_reducible refine gate_builtin (b := .append) (xs := #[.tmp 42, .tmp 43]) rfl ?_); (try (refine gate_guard (by rfl) ?_; dsimp only)); at_builtin; refine Kd.R_append_rows (Kd.int .u8) (w0 := w) w.heap.size rfl (.tmp 42) (.tmp 43) 29 5 (.int .u8 0) 1 rfl Tryz.underlying29 info5 rfl (by decide) (by omega) v137 y136 l0 _ _ _ (fun _ => True) (fun _ => False) rfl rfl ?aO ?aR (fun _ _ h => h) (fun _ h => h.elim) ?aF ?aB ?aS ?aL ?_; (case aR => repeat (first | exact (Kd.C_below HR0.out HB.out) | (with_reducible refine Kd.C_alloc ?_ _) | (with_reducible refine Kd.C_drewN ?_ _) | (with_reducible refine Kd.C_drew ?_))); (case aB => exact (by repeat (first | (with_reducible first | exact HB.out | apply below_alloc | apply pw_below_drewN | apply below_drew1 | refine below_set ?_ GE134.out) | exact HB.out))); (case aF => exact (fun _ _ => trivial)); (case aO => exact (by (with_reducible repeat (first | apply Kd.R_alloc | apply Kd.R_drewN | apply Kd.R_drew)); exact HO138.out)); (case aS => exact (below_size (by repeat (first | (with_reducible first | exact HB.out | apply below_alloc | apply pw_below_drewN | apply below_drew1 | refine below_set ?_ GE134.out) | exact HB.out)))); (case aL => have := LMc20.out; omega); intro v140 w24 ho hb hg hat; rw [← Ny139.out] at ho; have n0_ := Aside0.mk (blk_grown (g := gb134) (o := .cells #[.int .i64 0, .slice none 0 0, .slice none 0 0] 51 (0, 0)) (by (with_reducible repeat (first | refine blk_drewN ?_ _ | refine blk_drew ?_ | refine blk_alloc ?_ _)); exact BK134.out) hg (Kd.R_ne HO138.out BK134.out (by decide))); have n1_ := Aside0.mk (hb); have n2_ := Aside0.mk (ho); clear BK134; clear HB; clear HO138; have BK134 := n0_; have HB := n1_; have HO141 := n2_; clear n0_ n1_ n2_; clear ho hb hg hat; obtain ⟨Ao25, co25, eo25⟩ := Kd.R_slice HO141.out; subst eo25; have hcz26_0 : w24.cell? ⟨gb134, 0, none⟩ = some (.int .i64 0) := (blk_cell BK134.out 0).trans rfl; have hcz26_1 : w24.cell? ⟨gb134, 1, none⟩ = some (.slice none 0 0) := (blk_cell BK134.out 1).trans rfl; have hcz26_2 : w24.cell? ⟨gb134, 2, none⟩ = some (.slice none 0 0) := (blk_cell BK134.out 2).trans rfl; have hfz26_0 := blk_frozen BK134.out 0; have hfz26_1 := blk_frozen BK134.out 1; have hfz26_2 := blk_frozen BK134.out 2))
          repeat (go_quiet (first | ((with_reducible refine gate_dst (N := 4) rfl ?_); (try (refine gate_guard (by rfl) ?_; dsimp only)); refine box_event ?hg (N := 4) ?hd (cs := #[.int .i64 0, .slice none 0 0, .slice none 0 0]) (t := 51) ?hr ?_; (case hd => rfl); (case hg => rfl); (case hr => first | (go_simp; done) | (go_simp; rfl)); intro gb134 hg w21 hbox hb; have n0_ := Aside0.mk (below_step (by repeat (first | (with_reducible first | exact HB.out | apply below_alloc | apply pw_below_drewN | apply below_drew1) | exact HB.out)) hb); have n1_ := Aside0.mk (hbox); have n2_ := Aside0.mk ((by rw [hg]; exact (below_size (by repeat (first | (with_reducible first | exact HB.out | apply below_alloc | apply pw_below_drewN | apply below_drew1) | exact HB.out))) : w.heap.size ≤ gb134)); have n3_ := Aside0.mk ((by rw [hg]; exact (below_size (by repeat (first | (with_reducible first | exact HB.out | apply below_alloc | apply pw_below_drewN | apply below_drew1) | exact HB.out))) : w.heap.size ≤ gb134)); clear HB; have HB := n0_; have BK134 := n1_; have GW134 := n2_; have GE134 := n3_; clear n0_ n1_ n2_ n3_; clear hb hbox hg; have p135 : 0 ≤ ((ji13) : Int) := of_decide_eq_true (by first | (with_reducible assumption) | assumption); have q135 : (ji13) < (l0.length : Int) := of_decide_eq_true (by first | (with_reducible assumption) | assumption); obtain ⟨ad135, e135, hx135_0⟩ := Kd.at_int HR0.out (ji13) p135 q135; cases e135; replace hx135_0 := (HB.out.cell (World.block_lt_of_cell? w _ hx135_0)).trans hx135_0; replace p135 := eq_true p135; replace q135 := eq_true q135) | ((with_reducible refine gate_dst (N := 42) rfl ?_); (try (refine gate_guard (by rfl) ?_; dsimp only)); refine Kd.R_lit (Kd.int .u8) _ 5 ?hg (N := 42) ?hd (xs := ([(ji16) % 256] : List Int)) (inner := [.int .u8 ((ji16) % 256)]) (ok := fun _ => True) (okp := fun _ => True) ?hr ?hp (fun _ hk => hk) trivial (Below.refl _ _) (Nat.le_refl _) (by simp) ?_; (case hd => rfl); (case hg => rfl); (case hr => first | (go_simp; done) | (go_simp; rfl)); (case hp => exact (Reps.one (show Kd.M (Kd.int .u8) _ _ _ ((ji16) % 256) [.int .u8 ((ji16) % 256)] from rfl) (Reps.none _ _))); intro v137 w22 ho23 hb hg_ hnew_; clear hg_ hnew_; (first | rw [← Ny136.out] at ho23 | (simp only [Int.reduceToNat] at ho23; rw [← Ny136.out] at ho23)); have n0_ := Aside0.mk (Kd.R_lower ho23 (below_size (by repeat (first | (with_reducible first | exact HB.out | apply below_alloc | apply pw_below_drewN | apply below_drew1 | refine below_set ?_ GE134.out) | exact HB.out)))); have n1_ := Aside0.mk (blk_below (g := gb134) (o := .cells #[.int .i64 0, .slice none 0 0, .slice none 0 0] 51 (0, 0)) (by (with_reducible repeat (first | refine blk_drewN ?_ _ | refine blk_drew ?_ | refine blk_alloc ?_ _)); exact BK134.out) hb); have n2_ := Aside0.mk (below_step (by repeat (first | (with_reducible first | exact HB.out | apply below_alloc | apply pw_below_drewN | apply below_drew1 | refine below_set ?_ GE134.out) | exact HB.out)) hb); clear BK134; clear HB; have HO138 := n0_; have BK134 := n1_; have HB := n2_; clear n0_ n1_ n2_; clear hb ho23) | ((with_reducible refine gate_builtin (b := .append) (xs := #[.tmp 42, .tmp 43]) rfl ?_); (try (refine gate_guard (by rfl) ?_; dsimp only)); at_builtin; refine Kd.R_append_rows (Kd.int .u8) (w0 := w) w.heap.size rfl (.tmp 42) (.tmp 43) 29 5 (.int .u8 0) 1 rfl Tryz.underlying29 info5 rfl (by decide) (by omega) v137 y136 l0 _ _ _ (fun _ => True) (fun _ => False) rfl rfl ?aO ?aR (fun _ _ h => h) (fun _ h => h.elim) ?aF ?aB ?aS ?aL ?_; (case aR => repeat (first | exact (Kd.C_below HR0.out HB.out) | (with_reducible refine Kd.C_alloc ?_ _) | (with_reducible refine Kd.C_drewN ?_ _) | (with_reducible refine Kd.C_drew ?_))); (case aB => exact (by repeat (first | (with_reducible first | exact HB.out | apply below_alloc | apply pw_below_drewN | apply below_drew1 | refine below_set ?_ GE134.out) | exact HB.out))); (case aF => exact (fun _ _ => trivial)); (case aO => exact (by (with_reducible repeat (first | apply Kd.R_alloc | apply Kd.R_drewN | apply Kd.R_drew)); exact HO138.out)); (case aS => exact (below_size (by repeat (first | (with_reducible first | exact HB.out | apply below_alloc | apply pw_below_drewN | apply below_drew1 | refine below_set ?_ GE134.out) | exact HB.out)))); (case aL => have := LMc20.out; omega); intro v140 w24 ho hb hg hat; rw [← Ny139.out] at ho; have n0_ := Aside0.mk (blk_grown (g := gb134) (o := .cells #[.int .i64 0, .slice none 0 0, .slice none 0 0] 51 (0, 0)) (by (with_reducible repeat (first | refine blk_drewN ?_ _ | refine blk_drew ?_ | refine blk_alloc ?_ _)); exact BK134.out) hg (Kd.R_ne HO138.out BK134.out (by decide))); have n1_ := Aside0.mk (hb); have n2_ := Aside0.mk (ho); clear BK134; clear HB; clear HO138; have BK134 := n0_; have HB := n1_; have HO141 := n2_; clear n0_ n1_ n2_; clear ho hb hg hat; obtain ⟨Ao25, co25, eo25⟩ := Kd.R_slice HO141.out; subst eo25; have hcz26_0 : w24.cell? ⟨gb134, 0, none⟩ = some (.int .i64 0) := (blk_cell BK134.out 0).trans rfl; have hcz26_1 : w24.cell? ⟨gb134, 1, none⟩ = some (.slice none 0 0) := (blk_cell BK134.out 1).trans rfl; have hcz26_2 : w24.cell? ⟨gb134, 2, none⟩ = some (.slice none 0 0) := (blk_cell BK134.out 2).trans rfl; have hfz26_0 := blk_frozen BK134.out 0; have hfz26_1 := blk_frozen BK134.out 1; have hfz26_2 := blk_frozen BK134.out 2)); try go_wp2_with (first | ((with_reducible refine gate_dst (N := 4) rfl ?_); (try (refine gate_guard (by rfl) ?_; dsimp only)); refine box_event ?hg (N := 4) ?hd (cs := #[.int .i64 0, .slice none 0 0, .slice none 0 0]) (t := 51) ?hr ?_; (case hd => rfl); (case hg => rfl); (case hr => first | (go_simp; done) | (go_simp; rfl)); intro gb134 hg w21 hbox hb; have n0_ := Aside0.mk (below_step (by repeat (first | (with_reducible first | exact HB.out | apply below_alloc | apply pw_below_drewN | apply below_drew1) | exact HB.out)) hb); have n1_ := Aside0.mk (hbox); have n2_ := Aside0.mk ((by rw [hg]; exact (below_size (by repeat (first | (with_reducible first | exact HB.out | apply below_alloc | apply pw_below_drewN | apply below_drew1) | exact HB.out))) : w.heap.size ≤ gb134)); have n3_ := Aside0.mk ((by rw [hg]; exact (below_size (by repeat (first | (with_reducible first | exact HB.out | apply below_alloc | apply pw_below_drewN | apply below_drew1) | exact HB.out))) : w.heap.size ≤ gb134)); clear HB; have HB := n0_; have BK134 := n1_; have GW134 := n2_; have GE134 := n3_; clear n0_ n1_ n2_ n3_; clear hb hbox hg; have p135 : 0 ≤ ((ji13) : Int) := of_decide_eq_true (by first | (with_reducible assumption) | assumption); have q135 : (ji13) < (l0.length : Int) := of_decide_eq_true (by first | (with_reducible assumption) | assumption); obtain ⟨ad135, e135, hx135_0⟩ := Kd.at_int HR0.out (ji13) p135 q135; cases e135; replace hx135_0 := (HB.out.cell (World.block_lt_of_cell? w _ hx135_0)).trans hx135_0; replace p135 := eq_true p135; replace q135 := eq_true q135) | ((with_reducible refine gate_dst (N := 42) rfl ?_); (try (refine gate_guard (by rfl) ?_; dsimp only)); refine Kd.R_lit (Kd.int .u8) _ 5 ?hg (N := 42) ?hd (xs := ([(ji16) % 256] : List Int)) (inner := [.int .u8 ((ji16) % 256)]) (ok := fun _ => True) (okp := fun _ => True) ?hr ?hp (fun _ hk => hk) trivial (Below.refl _ _) (Nat.le_refl _) (by simp) ?_; (case hd => rfl); (case hg => rfl); (case hr => first | (go_simp; done) | (go_simp; rfl)); (case hp => exact (Reps.one (show Kd.M (Kd.int .u8) _ _ _ ((ji16) % 256) [.int .u8 ((ji16) % 256)] from rfl) (Reps.none _ _))); intro v137 w22 ho23 hb hg_ hnew_; clear hg_ hnew_; (first | rw [← Ny136.out] at ho23 | (simp only [Int.reduceToNat] at ho23; rw [← Ny136.out] at ho23)); have n0_ := Aside0.mk (Kd.R_lower ho23 (below_size (by repeat (first | (with_reducible first | exact HB.out | apply below_alloc | apply pw_below_drewN | apply below_drew1 | refine below_set ?_ GE134.out) | exact HB.out)))); have n1_ := Aside0.mk (blk_below (g := gb134) (o := .cells #[.int .i64 0, .slice none 0 0, .slice none 0 0] 51 (0, 0)) (by (with_reducible repeat (first | refine blk_drewN ?_ _ | refine blk_drew ?_ | refine blk_alloc ?_ _)); exact BK134.out) hb); have n2_ := Aside0.mk (below_step (by repeat (first | (with_reducible first | exact HB.out | apply below_alloc | apply pw_below_drewN | apply below_drew1 | refine below_set ?_ GE134.out) | exact HB.out)) hb); clear BK134; clear HB; have HO138 := n0_; have BK134 := n1_; have HB := n2_; clear n0_ n1_ n2_; clear hb ho23) | ((with_reducible refine gate_builtin (b := .append) (xs := #[.tmp 42, .tmp 43]) rfl ?_); (try (refine gate_guard (by rfl) ?_; dsimp only)); at_builtin; refine Kd.R_append_rows (Kd.int .u8) (w0 := w) w.heap.size rfl (.tmp 42) (.tmp 43) 29 5 (.int .u8 0) 1 rfl Tryz.underlying29 info5 rfl (by decide) (by omega) v137 y136 l0 _ _ _ (fun _ => True) (fun _ => False) rfl rfl ?aO ?aR (fun _ _ h => h) (fun _ h => h.elim) ?aF ?aB ?aS ?aL ?_; (case aR => repeat (first | exact (Kd.C_below HR0.out HB.out) | (with_reducible refine Kd.C_alloc ?_ _) | (with_reducible refine Kd.C_drewN ?_ _) | (with_reducible refine Kd.C_drew ?_))); (case aB => exact (by repeat (first | (with_reducible first | exact HB.out | apply below_alloc | apply pw_below_drewN | apply below_drew1 | refine below_set ?_ GE134.out) | exact HB.out))); (case aF => exact (fun _ _ => trivial)); (case aO => exact (by (with_reducible repeat (first | apply Kd.R_alloc | apply Kd.R_drewN | apply Kd.R_drew)); exact HO138.out)); (case aS => exact (below_size (by repeat (first | (with_reducible first | exact HB.out | apply below_alloc | apply pw_below_drewN | apply below_drew1 | refine below_set ?_ GE134.out) | exact HB.out)))); (case aL => have := LMc20.out; omega); intro v140 w24 ho hb hg hat; rw [← Ny139.out] at ho; have n0_ := Aside0.mk (blk_grown (g := gb134) (o := .cells #[.int .i64 0, .slice none 0 0, .slice none 0 0] 51 (0, 0)) (by (with_reducible repeat (first | refine blk_drewN ?_ _ | refine blk_drew ?_ | refine blk_alloc ?_ _)); exact BK134.out) hg (Kd.R_ne HO138.out BK134.out (by decide))); have n1_ := Aside0.mk (hb); have n2_ := Aside0.mk (ho); clear BK134; clear HB; clear HO138; have BK134 := n0_; have HB := n1_; have HO141 := n2_; clear n0_ n1_ n2_; clear ho hb hg hat; obtain ⟨Ao25, co25, eo25⟩ := Kd.R_slice HO141.out; subst eo25; have hcz26_0 : w24.cell? ⟨gb134, 0, none⟩ = some (.int .i64 0) := (blk_cell BK134.out 0).trans rfl; have hcz26_1 : w24.cell? ⟨gb134, 1, none⟩ = some (.slice none 0 0) := (blk_cell BK134.out 1).trans rfl; have hcz26_2 : w24.cell? ⟨gb134, 2, none⟩ = some (.slice none 0 0) := (blk_cell BK134.out 2).trans rfl; have hfz26_0 := blk_frozen BK134.out 0; have hfz26_1 := blk_frozen BK134.out 1; have hfz26_2 := blk_frozen BK134.out 2)))
          refine bodyPost_ret (results_ct rfl _ _ gb134 51 #[.int .i64 3, .slice Ao25 y139.length co25, .slice none 0 0] (0, 0) _ rfl (by (with_reducible repeat (first | refine blk_drewN ?_ _ | refine blk_drew ?_ | refine blk_alloc ?_ _)); refine blk_put (cs := #[.int .i64 3, .slice Ao25 y139.length co25, .slice none 0 0]) ?_ 2 _ rfl; (with_reducible repeat (first | refine blk_drewN ?_ _ | refine blk_drew ?_ | refine blk_alloc ?_ _)); refine blk_put (cs := #[.int .i64 3, .slice none 0 0, .slice none 0 0]) ?_ 1 _ rfl; (with_reducible repeat (first | refine blk_drewN ?_ _ | refine blk_drew ?_ | refine blk_alloc ?_ _)); refine blk_put (cs := #[.int .i64 0, .slice none 0 0, .slice none 0 0]) ?_ 0 _ rfl; (with_reducible repeat (first | refine blk_drewN ?_ _ | refine blk_drew ?_ | refine blk_alloc ?_ _)); exact BK134.out) Tryz.underlying51 rfl (by kernel_rfl)) rfl ?_
          exact ⟨_, _, by first | rfl | (simp [errW_none, errW_some] <;> rfl) | (simp only [← hji13, ← hji16, ← hji18]; first | rfl | (simp [errW_none, errW_some] <;> rfl)) | (simp [*, errW_none, errW_some] <;> rfl), by (with_reducible repeat (first | apply Kd.R_alloc | apply Kd.R_drewN | apply Kd.R_drew)); exact Kd.R_mono (Kd.R_far (p := ⟨gb134, 2, none⟩) (Kd.R_far (p := ⟨gb134, 1, none⟩) (Kd.R_far (p := ⟨gb134, 0, none⟩) (Kd.R_types HO141.out BK134.out (by decide)) (fun _ hk => hk.2) (.int .i64 3)) (fun _ hk => hk.2) (.slice Ao25 y139.length co25)) (fun _ hk => hk.2) (.slice none 0 0)) (fun _ hk => trivial), by first | exact Kd.R_nil _ _ _ _ _ | exact Kd.N_nil _ _ _ _ _ | exact Kd.V_nil _ _ _ _ _ | exact Kd.Q_nil _ _ _ _ _ | exact Kd.S_nil _ _ _ _ _, by repeat (first | (with_reducible first | exact HB.out | apply below_alloc | apply pw_below_drewN | apply below_drew1 | refine below_set ?_ GE134.out) | exact HB.out)⟩
         ·rw [if_neg c20] at H
          exact absurd H (by simp)
        ·rw [if_neg c19] at H
         have c19b0 : ((Go.bits .and .u8 (rd l0 (ji13)) (((ji18) - 1) % 256)) == 0) = false := beq_eq_false_iff_ne.mpr c19
         have c19b1 : ((Go.bits .and .u8 (rd l0 (ji13)) (((ji18) - 1) % 256)) != 0) = true := bne_iff_ne.mpr c19
         simp only [Option.some.injEq, Prod.mk.injEq] at H
         obtain ⟨rfl, rfl, rfl, rfl⟩ := H
         go_enter Tryz.func102, Tryz.ntmps102
         go_wp2_with (first | ((with_reducible refine gate_dst (N := 4) rfl ?_); (try (refine gate_guard (by rfl) ?_; dsimp only)); refine box_event ?hg (N := 4) ?hd (cs := #[.int .i64 0, .slice none 0 0, .slice none 0 0]) (t := 51) ?hr ?_; (case hd => rfl); (case hg => rfl); (case hr => first | (go_simp; done) | (go_simp; rfl)); intro gb134 hg w27 hbox hb; have n0_ := Aside0.mk (below_step (by repeat (first | (with_reducible first | exact HB.out | apply below_alloc | apply pw_below_drewN | apply below_drew1) | exact HB.out)) hb); have n1_ := Aside0.mk (hbox); have n2_ := Aside0.mk ((by rw [hg]; exact (below_size (by repeat (first | (with_reducible first | exact HB.out | apply below_alloc | apply pw_below_drewN | apply below_drew1) | exact HB.out))) : w.heap.size ≤ gb134)); have n3_ := Aside0.mk ((by rw [hg]; exact (below_size (by repeat (first | (with_reducible first | exact HB.out | apply below_alloc | apply pw_below_drewN | apply below_drew1) | exact HB.out))) : w.heap.size ≤ gb134)); clear HB; have HB := n0_; have BK134 := n1_; have GW134 := n2_; have GE134 := n3_; clear n0_ n1_ n2_ n3_; clear hb hbox hg; have p135 : 0 ≤ ((ji13) : Int) := of_decide_eq_true (by first | (with_reducible assumption) | assumption); have q135 : (ji13) < (l0.length : Int) := of_decide_eq_true (by first | (with_reducible assumption) | assumption); obtain ⟨ad135, e135, hx135_0⟩ := Kd.at_int HR0.out (ji13) p135 q135; cases e135; replace hx135_0 := (HB.out.cell (World.block_lt_of_cell? w _ hx135_0)).trans hx135_0; replace p135 := eq_true p135; replace q135 := eq_true q135; have hcz28_0 : w27.cell? ⟨gb134, 0, none⟩ = some (.int .i64 0) := (blk_cell BK134.out 0).trans rfl; have hcz28_1 : w27.cell? ⟨gb134, 1, none⟩ = some (.slice none 0 0) := (blk_cell BK134.out 1).trans rfl; have hcz28_2 : w27.cell? ⟨gb134, 2, none⟩ = some (.slice none 0 0) := (blk_cell BK134.out 2).trans rfl; have hfz28_0 := blk_frozen BK134.out 0; have hfz28_1 := blk_frozen BK134.out 1; have hfz28_2 := blk_frozen BK134.out 2))
         repeat (go_quiet (first | ((with_reducible refine gate_dst (N := 4) rfl ?_); (try (refine gate_guard (by rfl) ?_; dsimp only)); refine box_event ?hg (N := 4) ?hd (cs := #[.int .i64 0, .slice none 0 0, .slice none 0 0]) (t := 51) ?hr ?_; (case hd => rfl); (case hg => rfl); (case hr => first | (go_simp; done) | (go_simp; rfl)); intro gb134 hg w27 hbox hb; have n0_ := Aside0.mk (below_step (by repeat (first | (with_reducible first | exact HB.out | apply below_alloc | apply pw_below_drewN | apply below_drew1) | exact HB.out)) hb); have n1_ := Aside0.mk (hbox); have n2_ := Aside0.mk ((by rw [hg]; exact (below_size (by repeat (first | (with_reducible first | exact HB.out | apply below_alloc | apply pw_below_drewN | apply below_drew1) | exact HB.out))) : w.heap.size ≤ gb134)); have n3_ := Aside0.mk ((by rw [hg]; exact (below_size (by repeat (first | (with_reducible first | exact HB.out | apply below_alloc | apply pw_below_drewN | apply below_drew1) | exact HB.out))) : w.heap.size ≤ gb134)); clear HB; have HB := n0_; have BK134 := n1_; have GW134 := n2_; have GE134 := n3_; clear n0_ n1_ n2_ n3_; clear hb hbox hg; have p135 : 0 ≤ ((ji13) : Int) := of_decide_eq_true (by first | (with_reducible assumption) | assumption); have q135 : (ji13) < (l0.length : Int) := of_decide_eq_true (by first | (with_reducible assumption) | assumption); obtain ⟨ad135, e135, hx135_0⟩ := Kd.at_int HR0.out (ji13) p135 q135; cases e135; replace hx135_0 := (HB.out.cell (World.block_lt_of_cell? w _ hx135_0)).trans hx135_0; replace p135 := eq_true p135; replace q135 := eq_true q135; have hcz28_0 : w27.cell? ⟨gb134, 0, none⟩ = some (.int .i64 0) := (blk_cell BK134.out 0).trans rfl; have hcz28_1 : w27.cell? ⟨gb134, 1, none⟩ = some (.slice none 0 0) := (blk_cell BK134.out 1).trans rfl; have hcz28_2 : w27.cell? ⟨gb134, 2, none⟩ = some (.slice none 0 0) := (blk_cell BK134.out 2).trans rfl; have hfz28_0 := blk_frozen BK134.out 0; have hfz28_1 := blk_frozen BK134.out 1; have hfz28_2 := blk_frozen BK134.out 2)); try go_wp2_with (first | ((with_reducible refine gate_dst (N := 4) rfl ?_); (try (refine gate_guard (by rfl) ?_; dsimp only)); refine box_event ?hg (N := 4) ?hd (cs := #[.int .i64 0, .slice none 0 0, .slice none 0 0]) (t := 51) ?hr ?_; (case hd => rfl); (case hg => rfl); (case hr => first | (go_simp; done) | (go_simp; rfl)); intro gb134 hg w27 hbox hb; have n0_ := Aside0.mk (below_step (by repeat (first | (with_reducible first | exact HB.out | apply below_alloc | apply pw_below_drewN | apply below_drew1) | exact HB.out)) hb); have n1_ := Aside0.mk (hbox); have n2_ := Aside0.mk ((by rw [hg]; exact (below_size (by repeat (first | (with_reducible first | exact HB.out | apply below_alloc | apply pw_below_drewN | apply below_drew1) | exact HB.out))) : w.heap.size ≤ gb134)); have n3_ := Aside0.mk ((by rw [hg]; exact (below_size (by repeat (first | (with_reducible first | exact HB.out | apply below_alloc | apply pw_below_drewN | apply below_drew1) | exact HB.out))) : w.heap.size ≤ gb134)); clear HB; have HB := n0_; have BK134 := n1_; have GW134 := n2_; have GE134 := n3_; clear n0_ n1_ n2_ n3_; clear hb hbox hg; have p135 : 0 ≤ ((ji13) : Int) := of_decide_eq_true (by first | (with_reducible assumption) | assumption); have q135 : (ji13) < (l0.length : Int) := of_decide_eq_true (by first | (with_reducible assumption) | assumption); obtain ⟨ad135, e135, hx135_0⟩ := Kd.at_int HR0.out (ji13) p135 q135; cases e135; replace hx135_0 := (HB.out.cell (World.block_lt_of_cell? w _ hx135_0)).trans hx135_0; replace p135 := eq_true p135; replace q135 := eq_true q135; have hcz28_0 : w27.cell? ⟨gb134, 0, none⟩ = some (.int .i64 0) := (blk_cell BK134.out 0).trans rfl; have hcz28_1 : w27.cell? ⟨gb134, 1, none⟩ = some (.slice none 0 0) := (blk_cell BK134.out 1).trans rfl; have hcz28_2 : w27.cell? ⟨gb134, 2, none⟩ = some (.slice none 0 0) := (blk_cell BK134.out 2).trans rfl; have hfz28_0 := blk_frozen BK134.out 0; have hfz28_1 := blk_frozen BK134.out 1; have hfz28_2 := blk_frozen BK134.out 2)))
         refine bodyPost_ret (results_ct rfl _ _ gb134 51 #[.int .i64 0, .slice none 0 0, .slice none 0 0] (0, 0) _ rfl (by (with_reducible repeat (first | refine blk_drewN ?_ _ | refine blk_drew ?_ | refine blk_alloc ?_ _)); refine blk_put (cs := #[.int .i64 0, .slice none 0 0, .slice none 0 0]) ?_ 2 _ rfl; (with_reducible repeat (first | refine blk_drewN ?_ _ | refine blk_drew ?_ | refine blk_alloc ?_ _)); refine blk_put (cs := #[.int .i64 0, .slice none 0 0, .slice none 0 0]) ?_ 1 _ rfl; (with_reducible repeat (first | refine blk_drewN ?_ _ | refine blk_drew ?_ | refine blk_alloc ?_ _)); refine blk_put (cs := #[.int .i64 0, .slice none 0 0, .slice none 0 0]) ?_ 0 _ rfl; (with_reducible repeat (first | refine blk_drewN ?_ _ | refine blk_drew ?_ | refine blk_alloc ?_ _)); exact BK134.out) Tryz.underlying51 rfl (by kernel_rfl)) rfl ?_
         exact ⟨_, _, by first | rfl | (simp [errW_none, errW_some] <;> rfl) | (simp only [← hji13, ← hji16, ← hji18]; first | rfl | (simp [errW_none, errW_some] <;> rfl)) | (simp [*, errW_none, errW_some] <;> rfl), by first | exact Kd.R_nil _ _ _ _ _ | exact Kd.N_nil _ _ _ _ _ | exact Kd.V_nil _ _ _ _ _ | exact Kd.Q_nil _ _ _ _ _ | exact Kd.S_nil _ _ _ _ _, by first | exact Kd.R_nil _ _ _ _ _ | exact Kd.N_nil _ _ _ _ _ | exact Kd.V_nil _ _ _ _ _ | exact Kd.Q_nil _ _ _ _ _ | exact Kd.S_nil _ _ _ _ _, by repeat (first | (with_reducible first | exact HB.out | apply below_alloc | apply pw_below_drewN | apply below_drew1 | refine below_set ?_ GE134.out) | exact HB.out)⟩
       ·rw [if_neg c17] at H
        exact absurd H (by simp)
      ·rw [if_neg c15] at H
       exact absurd H (by simp)
     ·rw [if_neg c14] at H
      exact absurd H (by simp)
    ·rw [if_neg c12] at H
     have c12b0 : decide (0 < (wrap64 ((wrap64 (8 * (l0.length : Int))) - a1))) = false := decide_eq_false c12
     clear c12
     obtain ⟨y142, hy142⟩ : ∃ y_ : List Int, y_ = (([(wrap64 ((wrap64 (8 * (l0.length : Int))) - a1)) % 256] : List Int)) := ⟨_, rfl⟩
     replace H : (if y142.length + l0.length < 140737488355328 then (some (3, (y142 ++ l0), ([] : List (S51)), 0)) else (none)) = some (r1, r2, r3, r4) := by first | (rw [hy142]; with_reducible exact H) | (have H2_ := (Option.bind_some _ _).symm.trans H; rw [hy142]; with_reducible exact H2_) | (have H2_ := (Option.bind_some _ _).symm.trans H; with_reducible exact H2_) | with_reducible exact H | (rw [hy142]; exact H) | exact H
     have Ny142 := Aside0.mk hy142
     clear hy142
     by_cases c29 : y142.length + l0.length < 140737488355328
     ·rw [if_pos c29] at H
      have LMc29 := Aside0.mk c29
      clear c29
      obtain ⟨y145, hy145⟩ : ∃ y_ : List Int, y_ = (y142 ++ l0) := ⟨_, rfl⟩
      replace H : (some (3, y145, ([] : List (S51)), 0)) = some (r1, r2, r3, r4) := by first | (rw [hy145]; with_reducible exact H) | (have H2_ := (Option.bind_some _ _).symm.trans H; rw [hy145]; with_reducible exact H2_) | (have H2_ := (Option.bind_some _ _).symm.trans H; with_reducible exact H2_) | with_reducible exact H | (rw [hy145]; exact H) | exact H
      have Ny145 := Aside0.mk hy145
      clear hy145
      simp only [Option.some.injEq, Prod.mk.injEq] at H
      obtain ⟨rfl, rfl, rfl, rfl⟩ := H
      go_enter Tryz.func102, Tryz.ntmps102
      go_wp2_with (first | ((with_reducible refine gate_dst (N := 4) rfl ?_); (try (refine gate_guard (by rfl) ?_; dsimp only)); refine box_event ?hg (N := 4) ?hd (cs := #[.int .i64 0, .slice none 0 0, .slice none 0 0]) (t := 51) ?hr ?_; (case hd => rfl); (case hg => rfl); (case hr => first | (go_simp; done) | (go_simp; rfl)); intro gb134 hg w30 hbox hb; have n0_ := Aside0.mk (below_step (by repeat (first | (with_reducible first | exact HB.out | apply below_alloc | apply pw_below_drewN | apply below_drew1) | exact HB.out)) hb); have n1_ := Aside0.mk (hbox); have n2_ := Aside0.mk ((by rw [hg]; exact (below_size (by repeat (first | (with_reducible first | exact HB.out | apply below_alloc | apply pw_below_drewN | apply below_drew1) | exact HB.out))) : w.heap.size ≤ gb134)); have n3_ := Aside0.mk ((by rw [hg]; exact (below_size (by repeat (first | (with_reducible first | exact HB.out | apply below_alloc | apply pw_below_drewN | apply below_drew1) | exact HB.out))) : w.heap.size ≤ gb134)); clear HB; have HB := n0_; have BK134 := n1_; have GW134 := n2_; have GE134 := n3_; clear n0_ n1_ n2_ n3_; clear hb hbox hg) | ((with_reducible refine gate_dst (N := 42) rfl ?_); (try (refine gate_guard (by rfl) ?_; dsimp only)); refine Kd.R_lit (Kd.int .u8) _ 5 ?hg (N := 42) ?hd (xs := ([(wrap64 ((wrap64 (8 * (l0.length : Int))) - a1)) % 256] : List Int)) (inner := [.int .u8 ((wrap64 ((wrap64 (8 * (l0.length : Int))) - a1)) % 256)]) (ok := fun _ => True) (okp := fun _ => True) ?hr ?hp (fun _ hk => hk) trivial (Below.refl _ _) (Nat.le_refl _) (by simp) ?_; (case hd => rfl); (case hg => rfl); (case hr => first | (go_simp; done) | (go_simp; rfl)); (case hp => exact (Reps.one (show Kd.M (Kd.int .u8) _ _ _ ((wrap64 ((wrap64 (8 * (l0.length : Int))) - a1)) % 256) [.int .u8 ((wrap64 ((wrap64 (8 * (l0.length : Int))) - a1)) % 256)] from rfl) (Reps.none _ _))); intro v143 w31 ho32 hb hg_ hnew_; clear hg_ hnew_; (first | rw [← Ny142.out] at ho32 | (simp only [Int.reduceToNat] at ho32; rw [← Ny142.out] at ho32)); have n0_ := Aside0.mk (Kd.R_lower ho32 (below_size (by repeat (first | (with_reducible first | exact HB.out | apply below_alloc | apply pw_below_drewN | apply below_drew1 | refine below_set ?_ GE134.out) | exact HB.out)))); have n1_ := Aside0.mk (blk_below (g := gb134) (o := .cells #[.int .i64 0, .slice none 0 0, .slice none 0 0] 51 (0, 0)) (by (with_reducible repeat (first | refine blk_drewN ?_ _ | refine blk_drew ?_ | refine blk_alloc ?_ _)); exact BK134.out) hb); have n2_ := Aside0.mk (below_step (by repeat (first | (with_reducible first | exact HB.out | apply below_alloc | apply pw_below_drewN | apply below_drew1 | refine below_set ?_ GE134.out) | exact HB.out)) hb); clear BK134; clear HB; have HO144 := n0_; have BK134 := n1_; have HB := n2_; clear n0_ n1_ n2_; clear hb ho32) | ((with_reducible refine gate_builtin (b := .append) (xs := #[.tmp 42, .tmp 43]) rfl ?_); (try (refine gate_guard (by rfl) ?_; dsimp only)); at_builtin; refine Kd.R_append_rows (Kd.int .u8) (w0 := w) w.heap.size rfl (.tmp 42) (.tmp 43) 29 5 (.int .u8 0) 1 rfl Tryz.underlying29 info5 rfl (by decide) (by omega) v143 y142 l0 _ _ _ (fun _ => True) (fun _ => False) rfl rfl ?aO ?aR (fun _ _ h => h) (fun _ h => h.elim) ?aF ?aB ?aS ?aL ?_; (case aR => repeat (first | exact (Kd.C_below HR0.out HB.out) | (with_reducible refine Kd.C_alloc ?_ _) | (with_reducible refine Kd.C_drewN ?_ _) | (with_reducible refine Kd.C_drew ?_))); (case aB => exact (by repeat (first | (with_reducible first | exact HB.out | apply below_alloc | apply pw_below_drewN | apply below_drew1 | refine below_set ?_ GE134.out) | exact HB.out))); (case aF => exact (fun _ _ => trivial)); (case aO => exact (by (with_reducible repeat (first | apply Kd.R_alloc | apply Kd.R_drewN | apply Kd.R_drew)); exact HO144.out)); (case aS => exact (below_size (by repeat (first | (with_reducible first | exact HB.out | apply below_alloc | apply pw_below_drewN | apply below_drew1 | refine below_set ?_ GE134.out) | exact HB.out)))); (case aL => have := LMc29.out; omega); intro v146 w33 ho hb hg hat; rw [← Ny145.out] at ho; have n0_ := Aside0.mk (blk_grown (g := gb134) (o := .cells #[.int .i64 0, .slice none 0 0, .slice none 0 0] 51 (0, 0)) (by (with_reducible repeat (first | refine blk_drewN ?_ _ | refine blk_drew ?_ | refine blk_alloc ?_ _)); exact BK134.out) hg (Kd.R_ne HO144.out BK134.out (by decide))); have n1_ := Aside0.mk (hb); have n2_ := Aside0.mk (ho); clear BK134; clear HB; clear HO144; have BK134 := n0_; have HB := n1_; have HO147 := n2_; clear n0_ n1_ n2_; clear ho hb hg hat; obtain ⟨Ao34, co34, eo34⟩ := Kd.R_slice HO147.out; subst eo34; have hcz35_0 : w33.cell? ⟨gb134, 0, none⟩ = some (.int .i64 0) := (blk_cell BK134.out 0).trans rfl; have hcz35_1 : w33.cell? ⟨gb134, 1, none⟩ = some (.slice none 0 0) := (blk_cell BK134.out 1).trans rfl; have hcz35_2 : w33.cell? ⟨gb134, 2, none⟩ = some (.slice none 0 0) := (blk_cell BK134.out 2).trans rfl; have hfz35_0 := blk_frozen BK134.out 0; have hfz35_1 := blk_frozen BK134.out 1; have hfz35_2 := blk_frozen BK134.out 2))
      repeat (go_quiet (first | ((with_reducible refine gate_dst (N := 4) rfl ?_); (try (refine gate_guard (by rfl) ?_; dsimp only)); refine box_event ?hg (N := 4) ?hd (cs := #[.int .i64 0, .slice none 0 0, .slice none 0 0]) (t := 51) ?hr ?_; (case hd => rfl); (case hg => rfl); (case hr => first | (go_simp; done) | (go_simp; rfl)); intro gb134 hg w30 hbox hb; have n0_ := Aside0.mk (below_step (by repeat (first | (with_reducible first | exact HB.out | apply below_alloc | apply pw_below_drewN | apply below_drew1) | exact HB.out)) hb); have n1_ := Aside0.mk (hbox); have n2_ := Aside0.mk ((by rw [hg]; exact (below_size (by repeat (first | (with_reducible first | exact HB.out | apply below_alloc | apply pw_below_drewN | apply below_drew1) | exact HB.out))) : w.heap.size ≤ gb134)); have n3_ := Aside0.mk ((by rw [hg]; exact (below_size (by repeat (first | (with_reducible first | exact HB.out | apply below_alloc | apply pw_below_drewN | apply below_drew1) | exact HB.out))) : w.heap.size ≤ gb134)); clear HB; have HB := n0_; have BK134 := n1_; have GW134 := n2_; have GE134 := n3_; clear n0_ n1_ n2_ n3_; clear hb hbox hg) | ((with_reducible refine gate_dst (N := 42) rfl ?_); (try (refine gate_guard (by rfl) ?_; dsimp only)); refine Kd.R_lit (Kd.int .u8) _ 5 ?hg (N := 42) ?hd (xs := ([(wrap64 ((wrap64 (8 * (l0.length : Int))) - a1)) % 256] : List Int)) (inner := [.int .u8 ((wrap64 ((wrap64 (8 * (l0.length : Int))) - a1)) % 256)]) (ok := fun _ => True) (okp := fun _ => True) ?hr ?hp (fun _ hk => hk) trivial (Below.refl _ _) (Nat.le_refl _) (by simp) ?_; (case hd => rfl); (case hg => rfl); (case hr => first | (go_simp; done) | (go_simp; rfl)); (case hp => exact (Reps.one (show Kd.M (Kd.int .u8) _ _ _ ((wrap64 ((wrap64 (8 * (l0.length : Int))) - a1)) % 256) [.int .u8 ((wrap64 ((wrap64 (8 * (l0.length : Int))) - a1)) % 256)] from rfl) (Reps.none _ _))); intro v143 w31 ho32 hb hg_ hnew_; clear hg_ hnew_; (first | rw [← Ny142.out] at ho32 | (simp only [Int.reduceToNat] at ho32; rw [← Ny142.out] at ho32)); have n0_ := Aside0.mk (Kd.R_lower ho32 (below_size (by repeat (first | (with_reducible first | exact HB.out | apply below_alloc | apply pw_below_drewN | apply below_drew1 | refine below_set ?_ GE134.out) | exact HB.out)))); have n1_ := Aside0.mk (blk_below (g := gb134) (o := .cells #[.int .i64 0, .slice none 0 0, .slice none 0 0] 51 (0, 0)) (by (with_reducible repeat (first | refine blk_drewN ?_ _ | refine blk_drew ?_ | refine blk_alloc ?_ _)); exact BK134.out) hb); have n2_ := Aside0.mk (below_step (by repeat (first | (with_reducible first | exact HB.out | apply below_alloc | apply pw_below_drewN | apply below_drew1 | refine below_set ?_ GE134.out) | exact HB.out)) hb); clear BK134; clear HB; have HO144 := n0_; have BK134 := n1_; have HB := n2_; clear n0_ n1_ n2_; clear hb ho32) | ((with_reducible refine gate_builtin (b := .append) (xs := #[.tmp 42, .tmp 43]) rfl ?_); (try (refine gate_guard (by rfl) ?_; dsimp only)); at_builtin; refine Kd.R_append_rows (Kd.int .u8) (w0 := w) w.heap.size rfl (.tmp 42) (.tmp 43) 29 5 (.int .u8 0) 1 rfl Tryz.underlying29 info5 rfl (by decide) (by omega) v143 y142 l0 _ _ _ (fun _ => True) (fun _ => False) rfl rfl ?aO ?aR (fun _ _ h => h) (fun _ h => h.elim) ?aF ?aB ?aS ?aL ?_; (case aR => repeat (first | exact (Kd.C_below HR0.out HB.out) | (with_reducible refine Kd.C_alloc ?_ _) | (with_reducible refine Kd.C_drewN ?_ _) | (with_reducible refine Kd.C_drew ?_))); (case aB => exact (by repeat (first | (with_reducible first | exact HB.out | apply below_alloc | apply pw_below_drewN | apply below_drew1 | refine below_set ?_ GE134.out) | exact HB.out))); (case aF => exact (fun _ _ => trivial)); (case aO => exact (by (with_reducible repeat (first | apply Kd.R_alloc | apply Kd.R_drewN | apply Kd.R_drew)); exact HO144.out)); (case aS => exact (below_size (by repeat (first | (with_reducible first | exact HB.out | apply below_alloc | apply pw_below_drewN | apply below_drew1 | refine below_set ?_ GE134.out) | exact HB.out)))); (case aL => have := LMc29.out; omega); intro v146 w33 ho hb hg hat; rw [← Ny145.out] at ho; have n0_ := Aside0.mk (blk_grown (g := gb134) (o := .cells #[.int .i64 0, .slice none 0 0, .slice none 0 0] 51 (0, 0)) (by (with_reducible repeat (first | refine blk_drewN ?_ _ | refine blk_drew ?_ | refine blk_alloc ?_ _)); exact BK134.out) hg (Kd.R_ne HO144.out BK134.out (by decide))); have n1_ := Aside0.mk (hb); have n2_ := Aside0.mk (ho); clear BK134; clear HB; clear HO144; have BK134 := n0_; have HB := n1_; have HO147 := n2_; clear n0_ n1_ n2_; clear ho hb hg hat; obtain ⟨Ao34, co34, eo34⟩ := Kd.R_slice HO147.out; subst eo34; have hcz35_0 : w33.cell? ⟨gb134, 0, none⟩ = some (.int .i64 0) := (blk_cell BK134.out 0).trans rfl; have hcz35_1 : w33.cell? ⟨gb134, 1, none⟩ = some (.slice none 0 0) := (blk_cell BK134.out 1).trans rfl; have hcz35_2 : w33.cell? ⟨gb134, 2, none⟩ = some (.slice none 0 0) := (blk_cell BK134.out 2).trans rfl; have hfz35_0 := blk_frozen BK134.out 0; have hfz35_1 := blk_frozen BK134.out 1; have hfz35_2 := blk_frozen BK134.out 2)); try go_wp2_with (first | ((with_reducible refine gate_dst (N := 4) rfl ?_); (try (refine gate_guard (by rfl) ?_; dsimp only)); refine box_event ?hg (N := 4) ?hd (cs := #[.int .i64 0, .slice none 0 0, .slice none 0 0]) (t := 51) ?hr ?_; (case hd => rfl); (case hg => rfl); (case hr => first | (go_simp; done) | (go_simp; rfl)); intro gb134 hg w30 hbox hb; have n0_ := Aside0.mk (below_step (by repeat (first | (with_reducible first | exact HB.out | apply below_alloc | apply pw_below_drewN | apply below_drew1) | exact HB.out)) hb); have n1_ := Aside0.mk (hbox); have n2_ := Aside0.mk ((by rw [hg]; exact (below_size (by repeat (first | (with_reducible first | exact HB.out | apply below_alloc | apply pw_below_drewN | apply below_drew1) | exact HB.out))) : w.heap.size ≤ gb134)); have n3_ := Aside0.mk ((by rw [hg]; exact (below_size (by repeat (first | (with_reducible first | exact HB.out | apply below_alloc | apply pw_below_drewN | apply below_drew1) | exact HB.out))) : w.heap.size ≤ gb134)); clear HB; have HB := n0_; have BK134 := n1_; have GW134 := n2_; have GE134 := n3_; clear n0_ n1_ n2_ n3_; clear hb hbox hg) | ((with_reducible refine gate_dst (N := 42) rfl ?_); (try (refine gate_guard (by rfl) ?_; dsimp only)); refine Kd.R_lit (Kd.int .u8) _ 5 ?hg (N := 42) ?hd (xs := ([(wrap64 ((wrap64 (8 * (l0.length : Int))) - a1)) % 256] : List Int)) (inner := [.int .u8 ((wrap64 ((wrap64 (8 * (l0.length : Int))) - a1)) % 256)]) (ok := fun _ => True) (okp := fun _ => True) ?hr ?hp (fun _ hk => hk) trivial (Below.refl _ _) (Nat.le_refl _) (by simp) ?_; (case hd => rfl); (case hg => rfl); (case hr => first | (go_simp; done) | (go_simp; rfl)); (case hp => exact (Reps.one (show Kd.M (Kd.int .u8) _ _ _ ((wrap64 ((wrap64 (8 * (l0.length : Int))) - a1)) % 256) [.int .u8 ((wrap64 ((wrap64 (8 * (l0.length : Int))) - a1)) % 256)] from rfl) (Reps.none _ _))); intro v143 w31 ho32 hb hg_ hnew_; clear hg_ hnew_; (first | rw [← Ny142.out] at ho32 | (simp only [Int.reduceToNat] at ho32; rw [← Ny142.out] at ho32)); have n0_ := Aside0.mk (Kd.R_lower ho32 (below_size (by repeat (first | (with_reducible first | exact HB.out | apply below_alloc | apply pw_below_drewN | apply below_drew1 | refine below_set ?_ GE134.out) | exact HB.out)))); have n1_ := Aside0.mk (blk_below (g := gb134) (o := .cells #[.int .i64 0, .slice none 0 0, .slice none 0 0] 51 (0, 0)) (by (with_reducible repeat (first | refine blk_drewN ?_ _ | refine blk_drew ?_ | refine blk_alloc ?_ _)); exact BK134.out) hb); have n2_ := Aside0.mk (below_step (by repeat (first | (with_reducible first | exact HB.out | apply below_alloc | apply pw_below_drewN | apply below_drew1 | refine below_set ?_ GE134.out) | exact HB.out)) hb); clear BK134; clear HB; have HO144 := n0_; have BK134 := n1_; have HB := n2_; clear n0_ n1_ n2_; clear hb ho32) | ((with_reducible refine gate_builtin (b := .append) (xs := #[.tmp 42, .tmp 43]) rfl ?_); (try (refine gate_guard (by rfl) ?_; dsimp only)); at_builtin; refine Kd.R_append_rows (Kd.int .u8) (w0 := w) w.heap.size rfl (.tmp 42) (.tmp 43) 29 5 (.int .u8 0) 1 rfl Tryz.underlying29 info5 rfl (by decide) (by omega) v143 y142 l0 _ _ _ (fun _ => True) (fun _ => False) rfl rfl ?aO ?aR (fun _ _ h => h) (fun _ h => h.elim) ?aF ?aB ?aS ?aL ?_; (case aR => repeat (first | exact (Kd.C_below HR0.out HB.out) | (with_reducible refine Kd.C_alloc ?_ _) | (with_reducible refine Kd.C_drewN ?_ _) | (with_reducible refine Kd.C_drew ?_))); (case aB => exact (by repeat (first | (with_reducible first | exact HB.out | apply below_alloc | apply pw_below_drewN | apply below_drew1 | refine below_set ?_ GE134.out) | exact HB.out))); (case aF => exact (fun _ _ => trivial)); (case aO => exact (by (with_reducible repeat (first | apply Kd.R_alloc | apply Kd.R_drewN | apply Kd.R_drew)); exact HO144.out)); (case aS => exact (below_size (by repeat (first | (with_reducible first | exact HB.out | apply below_alloc | apply pw_below_drewN | apply below_drew1 | refine below_set ?_ GE134.out) | exact HB.out)))); (case aL => have := LMc29.out; omega); intro v146 w33 ho hb hg hat; rw [← Ny145.out] at ho; have n0_ := Aside0.mk (blk_grown (g := gb134) (o := .cells #[.int .i64 0, .slice none 0 0, .slice none 0 0] 51 (0, 0)) (by (with_reducible repeat (first | refine blk_drewN ?_ _ | refine blk_drew ?_ | refine blk_alloc ?_ _)); exact BK134.out) hg (Kd.R_ne HO144.out BK134.out (by decide))); have n1_ := Aside0.mk (hb); have n2_ := Aside0.mk (ho); clear BK134; clear HB; clear HO144; have BK134 := n0_; have HB := n1_; have HO147 := n2_; clear n0_ n1_ n2_; clear ho hb hg hat; obtain ⟨Ao34, co34, eo34⟩ := Kd.R_slice HO147.out; subst eo34; have hcz35_0 : w33.cell? ⟨gb134, 0, none⟩ = some (.int .i64 0) := (blk_cell BK134.out 0).trans rfl; have hcz35_1 : w33.cell? ⟨gb134, 1, none⟩ = some (.slice none 0 0) := (blk_cell BK134.out 1).trans rfl; have hcz35_2 : w33.cell? ⟨gb134, 2, none⟩ = some (.slice none 0 0) := (blk_cell BK134.out 2).trans rfl; have hfz35_0 := blk_frozen BK134.out 0; have hfz35_1 := blk_frozen BK134.out 1; have hfz35_2 := blk_frozen BK134.out 2)))
      refine bodyPost_ret (results_ct rfl _ _ gb134 51 #[.int .i64 3, .slice Ao34 y145.length co34, .slice none 0 0] (0, 0) _ rfl (by (with_reducible repeat (first | refine blk_drewN ?_ _ | refine blk_drew ?_ | refine blk_alloc ?_ _)); refine blk_put (cs := #[.int .i64 3, .slice Ao34 y145.length co34, .slice none 0 0]) ?_ 2 _ rfl; (with_reducible repeat (first | refine blk_drewN ?_ _ | refine blk_drew ?_ | refine blk_alloc ?_ _)); refine blk_put (cs := #[.int .i64 3, .slice none 0 0, .slice none 0 0]) ?_ 1 _ rfl; (with_reducible repeat (first | refine blk_drewN ?_ _ | refine blk_drew ?_ | refine blk_alloc ?_ _)); refine blk_put (cs := #[.int .i64 0, .slice none 0 0, .slice none 0 0]) ?_ 0 _ rfl; (with_reducible repeat (first | refine blk_drewN ?_ _ | refine blk_drew ?_ | refine blk_alloc ?_ _)); exact BK134.out) Tryz.underlying51 rfl (by kernel_rfl)) rfl ?_
      exact ⟨_, _, by first | rfl | (simp [errW_none, errW_some] <;> rfl) | (simp [*, errW_none, errW_some] <;> rfl), by (with_reducible repeat (first | apply Kd.R_alloc | apply Kd.R_drewN | apply Kd.R_drew)); exact Kd.R_mono (Kd.R_far (p := ⟨gb134, 2, none⟩) (Kd.R_far (p := ⟨gb134, 1, none⟩) (Kd.R_far (p := ⟨gb134, 0, none⟩) (Kd.R_types HO147.out BK134.out (by decide)) (fun _ hk => hk.2) (.int .i64 3)) (fun _ hk => hk.2) (.slice Ao34 y145.length co34)) (fun _ hk => hk.2) (.slice none 0 0)) (fun _ hk => trivial), by first | exact Kd.R_nil _ _ _ _ _ | exact Kd.N_nil _ _ _ _ _ | exact Kd.V_nil _ _ _ _ _ | exact Kd.Q_nil _ _ _ _ _ | exact Kd.S_nil _ _ _ _ _, by repeat (first | (with_reducible first | exact HB.out | apply below_alloc | apply pw_below_drewN | apply below_drew1 | refine below_set ?_ GE134.out) | exact HB.out)⟩
     ·rw [if_neg c29] at H
      exact absurd H (by simp)

end Go.Proofs.YtcbmjmphicfgpaaGreatDoor.PT
end

section
namespace Go.Proofs.YtcbmjmphicfgpaaGreatDoor.PT
open Go.RowKit Go.Proofs.YtcbmjmphicfgpaaGreatDoorW.PrintWords Go.Proofs.YtcbmjmphicfgpaaGreatDoorW.PrintLast Go.Proofs.YtcbmjmphicfgpaaGreatDoorW.PrintMore
attribute [local go_sem] max2_int min2_int max_two min_two max_three min_three max_four min_four   -- for this text's walks alone
set_option linter.unusedVariables false
set_option linter.unusedSimpArgs false

def spki_whole.f (l0 : List Int) : Option (Int × List Int × (List (S51))) := (scalar_Bits.f l0 (wrap64 (8 * (l0.length : Int)))).bind fun bt149 => (some (bt149.1, bt149.2.1, bt149.2.2.1))
set_option maxHeartbeats 8000000 in
set_option maxRecDepth 100000 in
theorem spki_whole.calls (A0 : Option Addr) (c0 : Nat) (l0 : List Int) (r1 : Int) (r2 : List Int) (r3 : List (S51)) (w : World) (hr0 : Kd.C (Kd.int .u8) w A0 l0.length l0) (hc0 : l0.length ≤ c0) (h : spki_whole.f l0 = some (r1, r2, r3)) :
 Calls Tryz.prog 59 #[.slice A0 l0.length c0] w fun e w' => ∃ v1_ v2_ : Value, e = .returned (.agg #[.int .i64 r1, v1_, v2_]) ∧ Kd.R (Kd.int .u8) 5 w' w.heap.size (fun _ => True) v1_ r2 ∧ Kd.R k51 51 w' w.heap.size (fun k_ => some k_ ≠ (v1_ : Value).ownBlock) v2_ r3 ∧ Below w.heap.size w w' := by
 have hu51 := Tryz.underlying51
 have HR0 := Aside0.mk hr0
 have HC0 := Aside0.mk hc0
 clear hr0 hc0
 have HB := Aside0.mk (Below.refl w.heap.size w)
 have H : ((scalar_Bits.f l0 (wrap64 (8 * (l0.length : Int)))).bind fun bt149 => (some (bt149.1, bt149.2.1, bt149.2.2.1))) = some (r1, r2, r3) := h
 clear h
 replace H := Option.bind_eq_some_iff.mp H
 obtain ⟨⟨t149, t150, t153, t156⟩, A20, H⟩ := H
 replace H : (some (t149, t150, t153)) = some (r1, r2, r3) := H
 have A2 := Aside0.mk A20
 clear A20
 simp only [Option.some.injEq, Prod.mk.injEq] at H
 obtain ⟨rfl, rfl, rfl⟩ := H
 go_enter Tryz.func59, Tryz.ntmps59
 go_wp2_with (first | ((with_reducible refine gate_dst (N := 2) rfl ?_); refine box_event ?hg (N := 2) ?hd (cs := #[.int .i64 0, .slice none 0 0, .slice none 0 0]) (t := 51) ?hr ?_; (case hd => rfl); (case hg => rfl); (case hr => first | (go_simp; done) | (go_simp; rfl)); intro gb148 hg w3 hbox hb; have n0_ := Aside0.mk (below_step (by repeat (first | (with_reducible first | exact HB.out | apply below_alloc | apply pw_below_drewN | apply below_drew1) | exact HB.out)) hb); have n1_ := Aside0.mk (hbox); have n2_ := Aside0.mk ((by rw [hg]; exact (below_size (by repeat (first | (with_reducible first | exact HB.out | apply below_alloc | apply pw_below_drewN | apply below_drew1) | exact HB.out))) : w.heap.size ≤ gb148)); have n3_ := Aside0.mk ((by rw [hg]; exact (below_size (by repeat (first | (with_reducible first | exact HB.out | apply below_alloc | apply pw_below_drewN | apply below_drew1) | exact HB.out))) : w.heap.size ≤ gb148)); clear HB; have HB := n0_; have BK148 := n1_; have GW148 := n2_; have GE148 := n3_; clear n0_ n1_ n2_ n3_; clear hb hbox hg) | ((with_reducible refine gate_callee (f := 102) rfl ?_); refine goesL_ (some 10) rfl rfl Tryz.func102 (by kernel_rfl) rfl #[.slice A0 l0.length c0, .int .i64 (wrap64 (8 * (l0.length : Int)))] rfl (by (try simp only [List.map_toArray, List.map_cons, List.map_nil]); first | done | rfl | (simp only [List.length_drop, List.length_take]; rfl)) ?_; (with_reducible refine (scalar_Bits.calls _ _ l0 (wrap64 (8 * (l0.length : Int))) t149 t150 t153 t156 _ ?side1 ?side2 A2.out).mono ?_); (case side1 => repeat (first | exact (Kd.C_below HR0.out HB.out) | (with_reducible refine Kd.C_alloc ?_ _) | (with_reducible refine Kd.C_drewN ?_ _) | (with_reducible refine Kd.C_drew ?_))); (case side2 => exact HC0.out); rintro e w4 ⟨v151, v154, rfl, ho0, ho1, hb⟩; refine ⟨_, rfl, ?_⟩; have n0_ := Aside0.mk (Kd.R_lower ho0 (below_size (by repeat (first | (with_reducible first | exact HB.out | apply below_alloc | apply pw_below_drewN | apply below_drew1 | refine below_set ?_ GE148.out) | exact HB.out)))); have n1_ := Aside0.mk (Kd.R_lower (Kd.R_newB ho1 (g := gb148) (o := .cells #[.int .i64 0, .slice none 0 0, .slice none 0 0] 51 (0, 0)) (by (with_reducible repeat (first | refine blk_drewN ?_ _ | refine blk_drew ?_ | refine blk_alloc ?_ _)); exact BK148.out)) (below_size (by repeat (first | (with_reducible first | exact HB.out | apply below_alloc | apply pw_below_drewN | apply below_drew1 | refine below_set ?_ GE148.out) | exact HB.out)))); have n2_ := Aside0.mk (blk_below (g := gb148) (o := .cells #[.int .i64 0, .slice none 0 0, .slice none 0 0] 51 (0, 0)) (by (with_reducible repeat (first | refine blk_drewN ?_ _ | refine blk_drew ?_ | refine blk_alloc ?_ _)); exact BK148.out) hb); have n3_ := Aside0.mk (below_step (by repeat (first | (with_reducible first | exact HB.out | apply below_alloc | apply pw_below_drewN | apply below_drew1 | refine below_set ?_ GE148.out) | exact HB.out)) hb); clear BK148; clear HB; have HO152 := n0_; have HO155 := n1_; have BK148 := n2_; have HB := n3_; clear n0_ n1_ n2_ n3_; (try clear hb); (try clear hb2); (try clear hk); (try clear hi); (try clear ho0); (try clear ho1)) | ((with_reducible refine gate_dst (N := 3) rfl ?_); refine box_event ?hg (N := 3) ?hd (cs := #[.int .i64 0, .slice none 0 0, .slice none 0 0]) (t := 51) ?hr ?_; (case hd => rfl); (case hg => rfl); (case hr => first | (go_simp; done) | (go_simp; rfl)); intro gb157 hg w5 hbox hb; have n0_ := Aside0.mk (Kd.R_below (by (with_reducible repeat (first | apply Kd.R_alloc | apply Kd.R_drewN | apply Kd.R_drew)); exact HO152.out) hb); have n1_ := Aside0.mk (Kd.R_below (Kd.R_elderB (by (with_reducible repeat (first | apply Kd.R_alloc | apply Kd.R_drewN | apply Kd.R_drew)); exact HO155.out) gb157 (Nat.le_of_eq hg.symm)) hb); have n2_ := Aside0.mk (blk_below (g := gb148) (o := .cells #[.int .i64 0, .slice none 0 0, .slice none 0 0] 51 (0, 0)) (by (with_reducible repeat (first | refine blk_drewN ?_ _ | refine blk_drew ?_ | refine blk_alloc ?_ _)); exact BK148.out) hb); have n3_ := Aside0.mk (below_step (by repeat (first | (with_reducible first | exact HB.out | apply below_alloc | apply pw_below_drewN | apply below_drew1 | refine below_set ?_ GE148.out) | exact HB.out)) hb); have n4_ := Aside0.mk (hbox); have n5_ := Aside0.mk ((by rw [hg]; exact (below_size (by repeat (first | (with_reducible first | exact HB.out | apply below_alloc | apply pw_below_drewN | apply below_drew1 | refine below_set ?_ GE148.out) | exact HB.out))) : w.heap.size ≤ gb157)); have n6_ := Aside0.mk ((by rw [hg]; exact (below_size (by repeat (first | (with_reducible first | exact HB.out | apply below_alloc | apply pw_below_drewN | apply below_drew1 | refine below_set ?_ GE148.out) | exact HB.out))) : w.heap.size ≤ gb157)); have n7_ := Aside0.mk ((by rw [hg]; exact Nat.ne_of_lt (blk_lt (g := gb148) (o := .cells #[.int .i64 0, .slice none 0 0, .slice none 0 0] 51 (0, 0)) (by (with_reducible repeat (first | refine blk_drewN ?_ _ | refine blk_drew ?_ | refine blk_alloc ?_ _)); exact BK148.out)) : gb148 ≠ gb157)); have n8_ := Aside0.mk ((by rw [hg]; exact Nat.ne_of_gt (blk_lt (g := gb148) (o := .cells #[.int .i64 0, .slice none 0 0, .slice none 0 0] 51 (0, 0)) (by (with_reducible repeat (first | refine blk_drewN ?_ _ | refine blk_drew ?_ | refine blk_alloc ?_ _)); exact BK148.out)) : gb157 ≠ gb148)); clear HO152; clear HO155; clear BK148; clear HB; have HO152 := n0_; have HO155 := n1_; have BK148 := n2_; have HB := n3_; have BK157 := n4_; have GW157 := n5_; have GE157 := n6_; have NB148_157 := n7_; have NB157_148 := n8_; clear n0_ n1_ n2_ n3_ n4_ n5_ n6_ n7_ n8_; clear hb hbox hg; have hnb6 := NB157_148.out; have hnc6 := NB148_157.out; have hcz7_0 : w5.cell? ⟨gb157, 0, none⟩ = some (.int .i64 0) := (blk_cell BK157.out 0).trans rfl; have hcz7_1 : w5.cell? ⟨gb157, 1, none⟩ = some (.slice none 0 0) := (blk_cell BK157.out 1).trans rfl; have hcz7_2 : w5.cell? ⟨gb157, 2, none⟩ = some (.slice none 0 0) := (blk_cell BK157.out 2).trans rfl; have hfz7_0 := blk_frozen BK157.out 0; have hfz7_1 := blk_frozen BK157.out 1; have hfz7_2 := blk_frozen BK157.out 2; obtain ⟨Ao8, co8, eo8⟩ := Kd.R_slice HO152.out; subst eo8; obtain ⟨Ao9, co9, eo9⟩ := Kd.R_slice HO155.out; subst eo9; have hcz10_0 : w5.cell? ⟨gb148, 0, none⟩ = some (.int .i64 0) := (blk_cell BK148.out 0).trans rfl; have hcz10_1 : w5.cell? ⟨gb148, 1, none⟩ = some (.slice none 0 0) := (blk_cell BK148.out 1).trans rfl; have hcz10_2 : w5.cell? ⟨gb148, 2, none⟩ = some (.slice none 0 0) := (blk_cell BK148.out 2).trans rfl; have hfz10_0 := blk_frozen BK148.out 0; have hfz10_1 := blk_frozen BK148.out 1; have hfz10_2 := blk_frozen BK148.out 2))
 refine bodyPost_ret (results_cell_row rfl _ _ gb148 51 #[.int .i64 t149, .slice Ao8 t150.length co8, .slice Ao9 t153.length co9] (0, 0) _ rfl (by (with_reducible repeat (first | refine blk_drewN ?_ _ | refine blk_drew ?_ | refine blk_alloc ?_ _)); refine blk_put (cs := #[.int .i64 t149, .slice Ao8 t150.length co8, .slice none 0 0]) ?_ 2 _ rfl; (with_reducible repeat (first | refine blk_drewN ?_ _ | refine blk_drew ?_ | refine blk_alloc ?_ _)); refine blk_put (cs := #[.int .i64 t149, .slice none 0 0, .slice none 0 0]) ?_ 1 _ rfl; (with_reducible repeat (first | refine blk_drewN ?_ _ | refine blk_drew ?_ | refine blk_alloc ?_ _)); refine blk_put (cs := #[.int .i64 0, .slice none 0 0, .slice none 0 0]) ?_ 0 _ rfl; (with_reducible repeat (first | refine blk_drewN ?_ _ | refine blk_drew ?_ | refine blk_alloc ?_ _)); refine blk_far ?_ NB148_157.out _; (with_reducible repeat (first | refine blk_drewN ?_ _ | refine blk_drew ?_ | refine blk_alloc ?_ _)); refine blk_far ?_ NB148_157.out _; (with_reducible repeat (first | refine blk_drewN ?_ _ | refine blk_drew ?_ | refine blk_alloc ?_ _)); refine blk_far ?_ NB148_157.out _; (with_reducible repeat (first | refine blk_drewN ?_ _ | refine blk_drew ?_ | refine blk_alloc ?_ _)); exact BK148.out) Tryz.underlying51 rfl (by kernel_rfl)) rfl ?_
 exact ⟨_, _, by first | rfl | (simp [errW_none, errW_some] <;> rfl) | (simp [*, errW_none, errW_some] <;> rfl), by (with_reducible repeat (first | apply Kd.R_alloc | apply Kd.R_drewN | apply Kd.R_drew)); exact Kd.R_mono (Kd.R_far (p := ⟨gb148, 2, none⟩) (Kd.R_far (p := ⟨gb148, 1, none⟩) (Kd.R_far (p := ⟨gb148, 0, none⟩) (Kd.R_far (p := ⟨gb157, 2, none⟩) (Kd.R_far (p := ⟨gb157, 1, none⟩) (Kd.R_far (p := ⟨gb157, 0, none⟩) (Kd.R_types (Kd.R_types HO152.out BK157.out (by decide)) BK148.out (by decide)) (fun _ hk => hk.1.2) (.int .i64 t149)) (fun _ hk => hk.1.2) (.slice Ao8 t150.length co8)) (fun _ hk => hk.1.2) (.slice Ao9 t153.length co9)) (fun _ hk => hk.2) (.int .i64 t149)) (fun _ hk => hk.2) (.slice Ao8 t150.length co8)) (fun _ hk => hk.2) (.slice Ao9 t153.length co9)) (fun _ hk => trivial), by (with_reducible repeat (first | apply Kd.R_alloc | apply Kd.R_drewN | apply Kd.R_drew)); exact Kd.R_mono (Kd.R_far (p := ⟨gb148, 2, none⟩) (Kd.R_far (p := ⟨gb148, 1, none⟩) (Kd.R_far (p := ⟨gb148, 0, none⟩) (Kd.R_far (p := ⟨gb157, 2, none⟩) (Kd.R_far (p := ⟨gb157, 1, none⟩) (Kd.R_far (p := ⟨gb157, 0, none⟩) (Kd.R_mono (Kd.R_mono HO155.out (fun k_ hk => (⟨hk, hk.2⟩ : _ ∧ k_ ≠ gb157))) (fun k_ hk => (⟨hk, hk.1.1.2⟩ : _ ∧ k_ ≠ gb148))) (fun _ hk => hk.1.2) (.int .i64 t149)) (fun _ hk => hk.1.2) (.slice Ao8 t150.length co8)) (fun _ hk => hk.1.2) (.slice Ao9 t153.length co9)) (fun _ hk => hk.2) (.int .i64 t149)) (fun _ hk => hk.2) (.slice Ao8 t150.length co8)) (fun _ hk => hk.2) (.slice Ao9 t153.length co9)) (fun _ hk => hk.1.1.1.1), by repeat (first | (with_reducible first | exact HB.out | apply below_alloc | apply pw_below_drewN | apply below_drew1 | refine below_set ?_ GE148.out | refine below_set ?_ GE157.out) | exact HB.out)⟩

end Go.Proofs.YtcbmjmphicfgpaaGreatDoor.PT
end

section
set_option linter.unusedVariables false
set_option linter.unusedSimpArgs false
namespace Go.Proofs.YtcbmjmphicfgpaaGreatDoor.Tlv
open Go.RowKit Go.Proofs.YtcbmjmphicfgpaaGreatDoorW.PrintWords Go.Proofs.YtcbmjmphicfgpaaGreatDoorW.PrintLast Go.Proofs.YtcbmjmphicfgpaaGreatDoorW.PrintMore Go.Proofs.YtcbmjmphicfgpaaGreatDoor.PT

theorem C_nil {α : Type} (d : Kd α) (w : World) (A : Option Addr) : d.C w A 0 [] := ⟨rfl, by omega, fun h => absurd h (by omega)⟩
theorem C_ints {k : IntKind} {w : World} {g : Nat} {t : TypeId} {l : List Int} (h : w.heap[g]? = some (.cells (l.map (Value.int k)).toArray t (0, 0))) (hl : l.length ≤ 9223372036854775807) : (Kd.int k).C w (some ⟨g, 0, none⟩) l.length l :=
 ⟨rfl, hl, fun _ => ⟨_, rfl, fun j p hj => ⟨[.int k p], rfl, rfl, fun i u hu => by
  cases i with
  | succ i => simp at hu
  | zero =>
   rw [List.getElem?_cons_zero] at hu
   injection hu with hu
   subst hu
   have e : Addr.add ⟨g, 0, none⟩ (j * 1 + 0) = ⟨g, j, none⟩ := by rw [Nat.mul_one, Nat.add_zero]; unfold Addr.add; simp; exact Eq.symm
   rw [show (Kd.int k).sz = 1 from rfl, e, Lib.cell_of_heap h j]
   rw [List.getElem?_toArray, List.getElem?_map, hj]; rfl⟩⟩⟩
/-- An element of one's own: its rows lie in blocks from base on, below m. -/
structure NodeR (w : World) (base m : Nat) (n : T) (v1 v2 : Value) : Prop where
 b : (Kd.int .u8).R 5 w base (fun k => base ≤ k ∧ k < m) v1 n.f1
 k : k51.R 51 w base (fun k => base ≤ k ∧ k < m) v2 n.f2
theorem NodeR.of {w : World} {base : Nat} {n : T} {v1 v2 : Value} {ok1 ok2 : Nat → Prop} (h1 : (Kd.int .u8).R 5 w base ok1 v1 n.f1) (h2 : k51.R 51 w base ok2 v2 n.f2) : NodeR w base w.heap.size n v1 v2 :=
 ⟨Kd.R_mono (Kd.R_bound h1) (fun _ h => ⟨h.2.1, h.2.2.1⟩), Kd.R_mono (Kd.R_bound h2) (fun _ h => ⟨h.2.1, h.2.2.1⟩)⟩
theorem NodeR.move {w w1 : World} {base m : Nat} {n : T} {v1 v2 : Value} (h : NodeR w base m n v1 v2) (hm : ∀ k, base ≤ k → k < m → w1.heap[k]? = w.heap[k]?) : NodeR w1 base m n v1 v2 :=
 ⟨Kd.R_move h.b (fun k hk => hm k hk.1 hk.2), Kd.R_move h.k (fun k hk => hm k hk.1 hk.2)⟩
theorem NodeR.widen {w : World} {base base' m m' : Nat} {n : T} {v1 v2 : Value} (h : NodeR w base m n v1 v2) (hb : base' ≤ base) (hm : m ≤ m') : NodeR w base' m' n v1 v2 :=
 ⟨Kd.R_lower (Kd.R_mono h.b (fun k hk => ⟨by omega, by omega⟩)) hb, Kd.R_lower (Kd.R_mono h.k (fun k hk => ⟨by omega, by omega⟩)) hb⟩
theorem NodeR.below {w w1 : World} {base m : Nat} {n : T} {v1 v2 : Value} (h : NodeR w base m n v1 v2) (hb : Below m w w1) : NodeR w1 base m n v1 v2 := h.move (fun k _ hk => hb.block k hk)
theorem NodeR.form {w : World} {base m : Nat} {n : T} {v1 v2 : Value} (h : NodeR w base m n v1 v2) : ∃ A1 c1 A2 c2, v1 = .slice A1 n.f1.length c1 ∧ v2 = .slice A2 n.f2.length c2 ∧ NodeAt w n A1 c1 A2 c2 := by
 obtain ⟨A1, c1, e1, hc1, hr1⟩ := Kd.R_reads h.b
 obtain ⟨A2, c2, e2, hc2, hr2⟩ := Kd.R_reads h.k
 exact ⟨A1, c1, A2, c2, e1, e2, hr1, hc1, hr2, hc2⟩
theorem NodeR.at {w : World} {base m : Nat} {n : T} {A1 : Option Addr} {c1 : Nat} {A2 : Option Addr} {c2 : Nat} (h : NodeR w base m n (.slice A1 n.f1.length c1) (.slice A2 n.f2.length c2)) : NodeAt w n A1 c1 A2 c2 := by
 obtain ⟨B1, d1, B2, d2, e1, e2, hn⟩ := h.form
 injection e1 with e1 _ e3
 injection e2 with e2 _ e4
 subst e1 e2 e3 e4
 exact hn
theorem NodeR.M {w : World} {base m g m' : Nat} {n : T} {v1 v2 : Value} (h : NodeR w base m n v1 v2) (hg : m ≤ g) (hm : m ≤ m') : k51.M w base (fun k => (base ≤ k ∧ k < m') ∧ some k ≠ some g) n [.int .i64 n.f0, v1, v2] :=
 k51_mkM w base _ n (Kd.R_mono h.b (fun k hk => ⟨⟨hk.1, by omega⟩, by simp; omega⟩)) (Kd.R_mono h.k (fun k hk => ⟨⟨hk.1, by omega⟩, by simp; omega⟩))
/-- A row of elements that has been laid in block g. -/
theorem R_row {w : World} {base g m : Nat} {l : List T} {cs : List Value} (h : w.heap[g]? = some (.cells cs.toArray 51 (0, 0))) (hb : base ≤ g) (hm : g < m) (hr : Reps (k51.M w base (fun k => (base ≤ k ∧ k < m) ∧ some k ≠ some g)) 3 l cs) (hl : l.length ≤ 1000000) :
 k51.R 51 w base (fun k => base ≤ k ∧ k < m) (.slice (some ⟨g, 0, none⟩) l.length l.length) l :=
 ⟨fun k hk => by
  have : g = k := by simpa [Value.ownBlock] using hk
  subst this
  exact ⟨hb, hm⟩, cs, ⟨hr.1, .inr ⟨g, l.length, cs.toArray, rfl, hb, h, Nat.le_refl _, by simp only [maxLen]; omega, by show cs.toArray.size = l.length * 3; rw [List.size_toArray]; exact hr.1, by
   rw [show cs.toArray.toList = cs from rfl]
   exact List.take_of_length_le (by rw [hr.1]; exact Nat.le_refl _)⟩⟩, hr⟩
theorem Reps_one {w : World} {base m g m' : Nat} {a : T} {x1 x2 : Value} (h1 : NodeR w base m a x1 x2) (hg : m ≤ g) (hm : m ≤ m') : Reps (k51.M w base (fun k => (base ≤ k ∧ k < m') ∧ some k ≠ some g)) 3 [a] [.int .i64 a.f0, x1, x2] :=
 (Reps.none _ _).snoc (p := a) (c := [.int .i64 a.f0, x1, x2]) (h1.M hg hm) rfl
theorem Reps_two {w : World} {base m g m' : Nat} {a b : T} {x1 x2 y1 y2 : Value} (h1 : NodeR w base m a x1 x2) (h2 : NodeR w base m b y1 y2) (hg : m ≤ g) (hm : m ≤ m') : Reps (k51.M w base (fun k => (base ≤ k ∧ k < m') ∧ some k ≠ some g)) 3 [a, b] [.int .i64 a.f0, x1, x2, .int .i64 b.f0, y1, y2] :=
 (Reps_one h1 hg hm).snoc (p := b) (c := [.int .i64 b.f0, y1, y2]) (h2.M hg hm) rfl
theorem NodeR.nilnil (w : World) (base m : Nat) (a : Int) : NodeR w base m ⟨a, [], []⟩ (.slice none 0 0) (.slice none 0 0) := ⟨Kd.R_nil _ _ _ _ _, Kd.R_nil _ _ _ _ _⟩

def oidB (x : Int) : List Int := [42, 134, 72, 134, 247, 13, 1, 1, x]
def algT (x : Int) : T := ⟨48, [], [⟨6, oidB x, []⟩, ⟨5, [], []⟩]⟩
theorem oid_f1 : scalar_Oid.f 100 [1, 2, 840, 113549, 1, 1, 1] = some (6, oidB 1, [], 0) := by kernel_rfl

set_option maxHeartbeats 4000000 in
set_option maxRecDepth 100000 in
theorem made_walk0 (x : Int) (hf : scalar_Oid.f 100 [1, 2, 840, 113549, 1, 1, x] = some (6, oidB x, [], 0)) (w : World) :
 Calls Tryz.prog 58 #[.int .u32 x] w fun e w' => ∃ v2, e = .returned (.agg #[.int .i64 48, .slice none 0 0, v2]) ∧ NodeR w' w.heap.size w'.heap.size (algT x) (.slice none 0 0) v2 ∧ Below w.heap.size w w' := by
 have HF := Lib.hid hf
 clear hf
 go_enter Tryz.func58, Tryz.ntmps58
 go_wp2_with (fail)
 have hl2 : ((w.alloc (.cells #[.int .i64 0, .slice none 0 0, .slice none 0 0] 51)).alloc (.cells #[.int .u32 1, .int .u32 2, .int .u32 840, .int .u32 113549, .int .u32 1, .int .u32 1, .int .u32 x] 30)).heap[w.heap.size + 1]? = some (.cells ([1, 2, 840, 113549, 1, 1, x].map (Value.int .u32)).toArray 30 (0, 0)) := by
  have := heap_alloc_new (w.alloc (.cells #[.int .i64 0, .slice none 0 0, .slice none 0 0] 51)) (.cells #[.int .u32 1, .int .u32 2, .int .u32 840, .int .u32 113549, .int .u32 1, .int .u32 1, .int .u32 x] 30)
  simpa using this
 have hb0 : ((w.alloc (.cells #[.int .i64 0, .slice none 0 0, .slice none 0 0] 51)).alloc (.cells #[.int .u32 1, .int .u32 2, .int .u32 840, .int .u32 113549, .int .u32 1, .int .u32 1, .int .u32 x] 30)).heap[w.heap.size]? = some (.cells #[.int .i64 0, .slice none 0 0, .slice none 0 0] 51 (0, 0)) :=
  (Below.heap_alloc _ _ _ (by simp)).trans (heap_alloc_new w _)
 have hB2 : Below w.heap.size w ((w.alloc (.cells #[.int .i64 0, .slice none 0 0, .slice none 0 0] 51)).alloc (.cells #[.int .u32 1, .int .u32 2, .int .u32 840, .int .u32 113549, .int .u32 1, .int .u32 1, .int .u32 x] 30)) := ((Below.refl _ _).alloc (Nat.le_refl _) _).alloc (by simp) _
 generalize (w.alloc (.cells #[.int .i64 0, .slice none 0 0, .slice none 0 0] 51)).alloc (.cells #[.int .u32 1, .int .u32 2, .int .u32 840, .int .u32 113549, .int .u32 1, .int .u32 1, .int .u32 x] 30) = w2 at hl2 hb0 hB2 ⊢
 refine (scalar_Oid.calls 100 (some ⟨w.heap.size + 1, 0, none⟩) 7 [1, 2, 840, 113549, 1, 1, x] 6 (oidB x) [] 0 w2 (C_ints hl2 (by simp)) (by simp) HF.out).mono ?_
 rintro e w3 ⟨v1, v2, rfl, hv1, hv2, hB3⟩
 obtain ⟨A1, c1, rfl⟩ := Kd.R_slice hv1
 obtain ⟨A2, c2, rfl⟩ := Kd.R_slice hv2
 have hb3 := (hB3.block _ (heap_lt hb0)).trans hb0
 have hlt := heap_lt hb3
 have hB := hB2.trans (hB3.mono hB2.size)
 have h0 := NodeR.of (n := ⟨6, oidB x, []⟩) hv1 hv2
 have H0 := Lib.hid h0
 have HLT2 := Lib.hid (And.intro (heap_lt hb0) hB3.size)
 have HB := Lib.hid hB
 have HB3 := Lib.hid hb3
 have a0 := Lib.cell_of_heap hb3 0
 have a1 := Lib.cell_of_heap hb3 1
 have a2 := Lib.cell_of_heap hb3 2
 have f0 := Lib.frozen_of_heap hb3 0
 have f1 := Lib.frozen_of_heap hb3 1
 have f2 := Lib.frozen_of_heap hb3 2
 clear h0 hB hb3 hl2 hb0 hB2 hB3 hv1 hv2
 have holen : (oidB x).length = 9 := rfl
 rw [holen]
 go_wp2
 have z0 : (((w3.setCell ⟨w.heap.size, 0, none⟩ (.int .i64 48)).setCell ⟨w.heap.size, 1, none⟩ (.slice none 0 0)).setCell ⟨w.heap.size, 2, none⟩ (.slice (some ⟨w3.heap.size + 1, 0, none⟩) 2 2)).heap[w.heap.size]? = some (.cells #[.int .i64 48, .slice none 0 0, .slice (some ⟨w3.heap.size + 1, 0, none⟩) 2 2] 51 (0, 0)) :=
  heap_setCell_same _ _ 2 _ _ _ (heap_setCell_same _ _ 1 _ _ _ (heap_setCell_same _ _ 0 _ _ _ HB3.out))
 have zB : Below w.heap.size w (((w3.setCell ⟨w.heap.size, 0, none⟩ (.int .i64 48)).setCell ⟨w.heap.size, 1, none⟩ (.slice none 0 0)).setCell ⟨w.heap.size, 2, none⟩ (.slice (some ⟨w3.heap.size + 1, 0, none⟩) 2 2)) :=
  Below.setCell (Below.setCell (Below.setCell HB.out (p := ⟨w.heap.size, 0, none⟩) (Nat.le_refl _) _) (p := ⟨w.heap.size, 1, none⟩) (Nat.le_refl _) _) (p := ⟨w.heap.size, 2, none⟩) (Nat.le_refl _) _
 have zs : (((w3.setCell ⟨w.heap.size, 0, none⟩ (.int .i64 48)).setCell ⟨w.heap.size, 1, none⟩ (.slice none 0 0)).setCell ⟨w.heap.size, 2, none⟩ (.slice (some ⟨w3.heap.size + 1, 0, none⟩) 2 2)).heap.size = w3.heap.size := by simp
 have zk : ∀ k, k ≠ w.heap.size → (((w3.setCell ⟨w.heap.size, 0, none⟩ (.int .i64 48)).setCell ⟨w.heap.size, 1, none⟩ (.slice none 0 0)).setCell ⟨w.heap.size, 2, none⟩ (.slice (some ⟨w3.heap.size + 1, 0, none⟩) 2 2)).heap[k]? = w3.heap[k]? :=
  fun k hk => (heap_setCell_other _ _ _ _ hk).trans ((heap_setCell_other _ _ _ _ hk).trans (heap_setCell_other _ _ _ _ hk))
 generalize ((w3.setCell ⟨w.heap.size, 0, none⟩ (.int .i64 48)).setCell ⟨w.heap.size, 1, none⟩ (.slice none 0 0)).setCell ⟨w.heap.size, 2, none⟩ (.slice (some ⟨w3.heap.size + 1, 0, none⟩) 2 2) = w4 at z0 zB zs zk ⊢
 have hn := H0.out
 obtain ⟨hq1, hq2⟩ := HLT2.out
 rw [← zs]
 rw [← zs] at z0
 have hr0 : ((w4.alloc (.cells #[.int .i64 6, .slice A1 9 c1, .slice A2 0 c2] 51)).alloc (.cells #[.int .i64 6, .slice A1 9 c1, .slice A2 0 c2, .int .i64 5, .slice none 0 0, .slice none 0 0] 51)).heap[w.heap.size]? = some (.cells #[.int .i64 48, .slice none 0 0, .slice (some ⟨w4.heap.size + 1, 0, none⟩) 2 2] 51 (0, 0)) :=
  (Below.heap_alloc _ _ _ (by simp; omega)).trans ((Below.heap_alloc _ _ _ (by omega)).trans z0)
 have hk0 : ((w4.alloc (.cells #[.int .i64 6, .slice A1 9 c1, .slice A2 0 c2] 51)).alloc (.cells #[.int .i64 6, .slice A1 9 c1, .slice A2 0 c2, .int .i64 5, .slice none 0 0, .slice none 0 0] 51)).heap[w4.heap.size + 1]? = some (.cells [.int .i64 6, .slice A1 9 c1, .slice A2 0 c2, .int .i64 5, .slice none 0 0, .slice none 0 0].toArray 51 (0, 0)) := by
  have := heap_alloc_new (w4.alloc (.cells #[.int .i64 6, .slice A1 9 c1, .slice A2 0 c2] 51)) (.cells #[.int .i64 6, .slice A1 9 c1, .slice A2 0 c2, .int .i64 5, .slice none 0 0, .slice none 0 0] 51)
  simpa using this
 have hBf : Below w4.heap.size w4 ((w4.alloc (.cells #[.int .i64 6, .slice A1 9 c1, .slice A2 0 c2] 51)).alloc (.cells #[.int .i64 6, .slice A1 9 c1, .slice A2 0 c2, .int .i64 5, .slice none 0 0, .slice none 0 0] 51)) := ((Below.refl _ _).alloc (Nat.le_refl _) _).alloc (by simp) _
 have hsf : ((w4.alloc (.cells #[.int .i64 6, .slice A1 9 c1, .slice A2 0 c2] 51)).alloc (.cells #[.int .i64 6, .slice A1 9 c1, .slice A2 0 c2, .int .i64 5, .slice none 0 0, .slice none 0 0] 51)).heap.size = w4.heap.size + 2 := by simp
 generalize (w4.alloc (.cells #[.int .i64 6, .slice A1 9 c1, .slice A2 0 c2] 51)).alloc (.cells #[.int .i64 6, .slice A1 9 c1, .slice A2 0 c2, .int .i64 5, .slice none 0 0, .slice none 0 0] 51) = w5 at hr0 hk0 hBf hsf ⊢
 have b0 := Lib.cell_of_heap hr0 0
 have b1 := Lib.cell_of_heap hr0 1
 have b2 := Lib.cell_of_heap hr0 2
 have hn5 : NodeR w5 w.heap.size w4.heap.size ⟨6, oidB x, []⟩ (.slice A1 9 c1) (.slice A2 0 c2) := by
  refine (NodeR.widen (NodeR.move (w1 := w5) hn (fun k hk1 hk2 => ?_)) (by omega) (by omega))
  rw [hBf.block k (by omega)]
  exact zk k (by omega)
 refine bodyPost_ret (v := .agg #[.int .i64 48, .slice none 0 0, .slice (some ⟨w4.heap.size + 1, 0, none⟩) 2 2]) (by simp [results, Tryz.results58, go_sem, b0, b1, b2]) rfl ?_
 refine ⟨_, rfl, ⟨Kd.R_nil _ _ _ _ _, ?_⟩, zB.trans (hBf.mono (by omega))⟩
 exact R_row (l := [⟨6, oidB x, []⟩, ⟨5, [], []⟩]) hk0 (by omega) (by omega) (Reps_two hn5 (NodeR.nilnil w5 w.heap.size w4.heap.size 5) (by omega) (by omega)) (by simp)
end Go.Proofs.YtcbmjmphicfgpaaGreatDoor.Tlv
end

section
set_option linter.unusedVariables false
set_option linter.unusedSimpArgs false
namespace Go.Proofs.YtcbmjmphicfgpaaGreatDoor.Tlv
open Go.RowKit Go.Proofs.YtcbmjmphicfgpaaGreatDoorW.PrintWords Go.Proofs.YtcbmjmphicfgpaaGreatDoorW.PrintLast Go.Proofs.YtcbmjmphicfgpaaGreatDoorW.PrintMore Go.Proofs.YtcbmjmphicfgpaaGreatDoor.PT

theorem NodeAt.K {w : World} {n : T} {A1 : Option Addr} {c1 : Nat} {A2 : Option Addr} {c2 : Nat} (h : NodeAt w n A1 c1 A2 c2) : k51.K w n [.int .i64 n.f0, .slice A1 n.f1.length c1, .slice A2 n.f2.length c2] := k51_mk w n h.2.1 h.1 h.2.2.2 h.2.2.1
/-- A row of elements that has been laid in block g, as it is read. -/
theorem C_row {w : World} {g : Nat} {l : List T} {cs : List Value} (h : w.heap[g]? = some (.cells cs.toArray 51 (0, 0))) (hr : Reps (k51.K w) 3 l cs) (hl : l.length ≤ 1000000) : k51.C w (some ⟨g, 0, none⟩) l.length l := by
 have ho : w.ownsRow g 51 3 (.slice (some ⟨g, 0, none⟩) l.length l.length) l.length cs :=
  ⟨hr.1, .inr ⟨g, l.length, cs.toArray, rfl, Nat.le_refl _, h, Nat.le_refl _, by simp only [maxLen]; omega, by rw [List.size_toArray]; exact hr.1, by
   rw [show cs.toArray.toList = cs from rfl]
   exact List.take_of_length_le (by rw [hr.1]; exact Nat.le_refl _)⟩⟩
 obtain ⟨A, c, e, hc⟩ := own_reads_row ho hr rfl
 injection e with e1 _ _
 subst e1
 exact hc
theorem KReps_one {w : World} {a : T} {x1 x2 : Value} (h1 : k51.K w a [.int .i64 a.f0, x1, x2]) : Reps (k51.K w) 3 [a] [.int .i64 a.f0, x1, x2] :=
 (Reps.none _ _).snoc (p := a) (c := [.int .i64 a.f0, x1, x2]) h1 rfl
theorem KReps_two {w : World} {a b : T} {x1 x2 y1 y2 : Value} (h1 : k51.K w a [.int .i64 a.f0, x1, x2]) (h2 : k51.K w b [.int .i64 b.f0, y1, y2]) : Reps (k51.K w) 3 [a, b] [.int .i64 a.f0, x1, x2, .int .i64 b.f0, y1, y2] :=
 (KReps_one h1).snoc (p := b) (c := [.int .i64 b.f0, y1, y2]) h2 rfl
def bitT (l : List Int) : T := ⟨3, 0 :: l, []⟩
theorem whole_f (l : List Int) (hl : l.length ≤ 1000000) : spki_whole.f l = some (3, 0 :: l, []) := by
 have e1 : wrap64 (8 * (l.length : Int)) = 8 * (l.length : Int) := by unfold wrap64; omega
 have e2 : wrap64 (8 * (l.length : Int) - 8 * (l.length : Int)) = 0 := by unfold wrap64; omega
 unfold spki_whole.f scalar_Bits.f
 rw [e1, if_neg (by omega), e2, if_neg (by omega), if_neg (by omega), if_neg (by omega)]
 have e3 : ([(0 : Int) % 256] : List Int).length + l.length < 140737488355328 := by simp; omega
 rw [Option.bind_some, if_pos e3, Option.bind_some]
 rfl

end Go.Proofs.YtcbmjmphicfgpaaGreatDoor.Tlv
end

section
namespace Go.Proofs.YtcbmjmphicfgpaaGreatDoor.PT
open Go.RowKit Go.Proofs.YtcbmjmphicfgpaaGreatDoorW.PrintWords Go.Proofs.YtcbmjmphicfgpaaGreatDoorW.PrintLast Go.Proofs.YtcbmjmphicfgpaaGreatDoorW.PrintMore
attribute [local go_sem] max2_int min2_int max_two min_two max_three min_three max_four min_four   -- for this text's walks alone
set_option linter.unusedVariables false
set_option linter.unusedSimpArgs false

def bytes_Equal.f (l0 : List Int) (l1 : List Int) : Option (Bool) := some ((strOfNums l0).toList == (strOfNums l1).toList)
set_option maxHeartbeats 8000000 in
set_option maxRecDepth 100000 in
theorem bytes_Equal.calls (A0 : Option Addr) (c0 : Nat) (l0 : List Int) (A1 : Option Addr) (c1 : Nat) (l1 : List Int) (r : Bool) (w : World) (hr0 : Kd.C (Kd.int .u8) w A0 l0.length l0) (hc0 : l0.length ≤ c0) (hr1 : Kd.C (Kd.int .u8) w A1 l1.length l1) (hc1 : l1.length ≤ c1) (h : bytes_Equal.f l0 l1 = some r) :
 Calls Tryz.prog 128 #[.slice A0 l0.length c0, .slice A1 l1.length c1] w fun e w' => e = .returned (.bool r) ∧ Drawn0 w w' := by
 have HR0 := Aside0.mk hr0
 have HC0 := Aside0.mk hc0
 clear hr0 hc0
 have HR1 := Aside0.mk hr1
 have HC1 := Aside0.mk hc1
 clear hr1 hc1
 have H : (some ((strOfNums l0).toList == (strOfNums l1).toList)) = some r := h
 clear h
 obtain rfl := Option.some.inj H
 have hcv3 := Kd.C_string (P := Tryz.prog) (A := A0) (c := c0) Tryz.underlying29 Tryz.underlying5 Tryz.underlying9 HR0.out
 have hcv4 := Kd.C_string (P := Tryz.prog) (A := A1) (c := c1) Tryz.underlying29 Tryz.underlying5 Tryz.underlying9 HR1.out
 go_enter Tryz.func128, Tryz.ntmps128
 go_wp2
 go_ret
 exact ⟨by first | rfl | (simp; done) | (simp [*]; done), by repeat (first | exact Drawn0.refl _ | apply Drawn0.step)⟩

end Go.Proofs.YtcbmjmphicfgpaaGreatDoor.PT
end

section
namespace Go.Proofs.YtcbmjmphicfgpaaGreatDoor.PT
open Go.RowKit Go.Proofs.YtcbmjmphicfgpaaGreatDoorW.PrintWords Go.Proofs.YtcbmjmphicfgpaaGreatDoorW.PrintLast Go.Proofs.YtcbmjmphicfgpaaGreatDoorW.PrintMore
attribute [local go_sem] max2_int min2_int max_two min_two max_three min_three max_four min_four   -- for this text's walks alone
set_option linter.unusedVariables false
set_option linter.unusedSimpArgs false

def scalar_same.f (a0_0 : Int) (l0_1 : List Int) (l0_2 : List (S51)) (a1_0 : Int) (l1_1 : List Int) (l1_2 : List (S51)) : Option (Bool) := if a0_0 = a1_0 then ((bytes_Equal.f l0_1 l1_1).bind fun t106 => (if t106 = true then (some ((wrap64 ((l0_2.length : Int) + (l1_2.length : Int))) == 0)) else (some false))) else (some false)
set_option maxHeartbeats 8000000 in
set_option maxRecDepth 100000 in
theorem scalar_same.calls (a0_0 : Int) (A0_1 : Option Addr) (c0_1 : Nat) (l0_1 : List Int) (A0_2 : Option Addr) (c0_2 : Nat) (l0_2 : List (S51)) (a1_0 : Int) (A1_1 : Option Addr) (c1_1 : Nat) (l1_1 : List Int) (A1_2 : Option Addr) (c1_2 : Nat) (l1_2 : List (S51)) (r : Bool) (w : World) (hr0_1 : Kd.C (Kd.int .u8) w A0_1 l0_1.length l0_1) (hc0_1 : l0_1.length ≤ c0_1) (hr0_2 : Kd.C k51 w A0_2 l0_2.length l0_2) (hc0_2 : l0_2.length ≤ c0_2) (hr1_1 : Kd.C (Kd.int .u8) w A1_1 l1_1.length l1_1) (hc1_1 : l1_1.length ≤ c1_1) (hr1_2 : Kd.C k51 w A1_2 l1_2.length l1_2) (hc1_2 : l1_2.length ≤ c1_2) (h : scalar_same.f a0_0 l0_1 l0_2 a1_0 l1_1 l1_2 = some r) :
 Calls Tryz.prog 142 #[.agg #[.int .i64 a0_0, .slice A0_1 l0_1.length c0_1, .slice A0_2 l0_2.length c0_2], .agg #[.int .i64 a1_0, .slice A1_1 l1_1.length c1_1, .slice A1_2 l1_2.length c1_2]] w fun e w' => e = .returned (.bool r) ∧ Below w.heap.size w w' := by
 have hu51 := Tryz.underlying51
 have HR0_1 := Aside0.mk hr0_1
 have HC0_1 := Aside0.mk hc0_1
 clear hr0_1 hc0_1
 have HR0_2 := Aside0.mk hr0_2
 have HC0_2 := Aside0.mk hc0_2
 clear hr0_2 hc0_2
 have HR1_1 := Aside0.mk hr1_1
 have HC1_1 := Aside0.mk hc1_1
 clear hr1_1 hc1_1
 have HR1_2 := Aside0.mk hr1_2
 have HC1_2 := Aside0.mk hc1_2
 clear hr1_2 hc1_2
 have HB := Aside0.mk (Below.refl w.heap.size w)
 have H : (if a0_0 = a1_0 then ((bytes_Equal.f l0_1 l1_1).bind fun t106 => (if t106 = true then (some ((wrap64 ((l0_2.length : Int) + (l1_2.length : Int))) == 0)) else (some false))) else (some false)) = some r := h
 clear h
 by_cases c3 : a0_0 = a1_0
 ·rw [if_pos c3] at H
  have c3b0 : (a0_0 == a1_0) = true := beq_iff_eq.mpr c3
  have c3b1 : (a0_0 != a1_0) = false := bne_eq_false_iff_eq.mpr c3
  clear c3
  replace H := Option.bind_eq_some_iff.mp H
  obtain ⟨t106, A40, H⟩ := H
  replace H : (if t106 = true then (some ((wrap64 ((l0_2.length : Int) + (l1_2.length : Int))) == 0)) else (some false)) = some r := H
  have A4 := Aside0.mk A40
  clear A40
  by_cases c5 : t106 = true
  ·subst c5
   have H1 : (some ((wrap64 ((l0_2.length : Int) + (l1_2.length : Int))) == 0)) = some r := by rw [if_pos rfl] at H; exact H
   clear H
   have H := H1
   clear H1
   obtain rfl := Option.some.inj H
   go_enter Tryz.func142, Tryz.ntmps142
   go_wp2_with (first | ((with_reducible refine gate_dst (N := 2) rfl ?_); (try (refine gate_guard (by rfl) ?_; dsimp only)); refine box_event ?hg (N := 2) ?hd (cs := #[.int .i64 a0_0, .slice A0_1 l0_1.length c0_1, .slice A0_2 l0_2.length c0_2]) (t := 51) ?hr ?_; (case hd => rfl); (case hg => rfl); (case hr => first | (go_simp; done) | (go_simp; rfl)); intro gb104 hg w6 hbox hb; have n0_ := Aside0.mk (below_step (by repeat (first | (with_reducible first | exact HB.out | apply below_alloc | apply pw_below_drewN | apply below_drew1) | exact HB.out)) hb); have n1_ := Aside0.mk (hbox); have n2_ := Aside0.mk ((by rw [hg]; exact (below_size (by repeat (first | (with_reducible first | exact HB.out | apply below_alloc | apply pw_below_drewN | apply below_drew1) | exact HB.out))) : w.heap.size ≤ gb104)); have n3_ := Aside0.mk ((by rw [hg]; exact (below_size (by repeat (first | (with_reducible first | exact HB.out | apply below_alloc | apply pw_below_drewN | apply below_drew1) | exact HB.out))) : w.heap.size ≤ gb104)); clear HB; have HB := n0_; have BK104 := n1_; have GW104 := n2_; have GE104 := n3_; clear n0_ n1_ n2_ n3_; clear hb hbox hg) | ((with_reducible refine gate_dst (N := 3) rfl ?_); (try (refine gate_guard (by rfl) ?_; dsimp only)); refine box_event ?hg (N := 3) ?hd (cs := #[.int .i64 a1_0, .slice A1_1 l1_1.length c1_1, .slice A1_2 l1_2.length c1_2]) (t := 51) ?hr ?_; (case hd => rfl); (case hg => rfl); (case hr => first | (go_simp; done) | (go_simp; rfl)); intro gb105 hg w7 hbox hb; have n0_ := Aside0.mk (blk_below (g := gb104) (o := .cells #[.int .i64 a0_0, .slice A0_1 l0_1.length c0_1, .slice A0_2 l0_2.length c0_2] 51 (0, 0)) (by (with_reducible repeat (first | refine blk_drewN ?_ _ | refine blk_drew ?_ | refine blk_alloc ?_ _)); exact BK104.out) hb); have n1_ := Aside0.mk (below_step (by repeat (first | (with_reducible first | exact HB.out | apply below_alloc | apply pw_below_drewN | apply below_drew1 | refine below_set ?_ GE104.out) | exact HB.out)) hb); have n2_ := Aside0.mk (hbox); have n3_ := Aside0.mk ((by rw [hg]; exact (below_size (by repeat (first | (with_reducible first | exact HB.out | apply below_alloc | apply pw_below_drewN | apply below_drew1 | refine below_set ?_ GE104.out) | exact HB.out))) : w.heap.size ≤ gb105)); have n4_ := Aside0.mk ((by rw [hg]; exact (below_size (by repeat (first | (with_reducible first | exact HB.out | apply below_alloc | apply pw_below_drewN | apply below_drew1 | refine below_set ?_ GE104.out) | exact HB.out))) : w.heap.size ≤ gb105)); have n5_ := Aside0.mk ((by rw [hg]; exact Nat.ne_of_lt (blk_lt (g := gb104) (o := .cells #[.int .i64 a0_0, .slice A0_1 l0_1.length c0_1, .slice A0_2 l0_2.length c0_2] 51 (0, 0)) (by (with_reducible repeat (first | refine blk_drewN ?_ _ | refine blk_drew ?_ | refine blk_alloc ?_ _)); exact BK104.out)) : gb104 ≠ gb105)); have n6_ := Aside0.mk ((by rw [hg]; exact Nat.ne_of_gt (blk_lt (g := gb104) (o := .cells #[.int .i64 a0_0, .slice A0_1 l0_1.length c0_1, .slice A0_2 l0_2.length c0_2] 51 (0, 0)) (by (with_reducible repeat (first | refine blk_drewN ?_ _ | refine blk_drew ?_ | refine blk_alloc ?_ _)); exact BK104.out)) : gb105 ≠ gb104)); clear BK104; clear HB; have BK104 := n0_; have HB := n1_; have BK105 := n2_; have GW105 := n3_; have GE105 := n4_; have NB104_105 := n5_; have NB105_104 := n6_; clear n0_ n1_ n2_ n3_ n4_ n5_ n6_; clear hb hbox hg; have hnb8 := NB104_105.out; have hnc8 := NB105_104.out; have hcz9_0 : w7.cell? ⟨gb104, 0, none⟩ = some (.int .i64 a0_0) := (blk_cell BK104.out 0).trans rfl; have hcz9_1 : w7.cell? ⟨gb104, 1, none⟩ = some (.slice A0_1 l0_1.length c0_1) := (blk_cell BK104.out 1).trans rfl; have hcz9_2 : w7.cell? ⟨gb104, 2, none⟩ = some (.slice A0_2 l0_2.length c0_2) := (blk_cell BK104.out 2).trans rfl; have hfz9_0 := blk_frozen BK104.out 0; have hfz9_1 := blk_frozen BK104.out 1; have hfz9_2 := blk_frozen BK104.out 2; have hcz10_0 : w7.cell? ⟨gb105, 0, none⟩ = some (.int .i64 a1_0) := (blk_cell BK105.out 0).trans rfl; have hcz10_1 : w7.cell? ⟨gb105, 1, none⟩ = some (.slice A1_1 l1_1.length c1_1) := (blk_cell BK105.out 1).trans rfl; have hcz10_2 : w7.cell? ⟨gb105, 2, none⟩ = some (.slice A1_2 l1_2.length c1_2) := (blk_cell BK105.out 2).trans rfl; have hfz10_0 := blk_frozen BK105.out 0; have hfz10_1 := blk_frozen BK105.out 1; have hfz10_2 := blk_frozen BK105.out 2) | (go_at_call 128; (with_reducible refine (bytes_Equal.calls _ _ l0_1 _ _ l1_1 true _ ?side1 ?side2 ?side3 ?side4 A4.out).mono ?_); (case side1 => repeat (first | exact (Kd.C_below HR0_1.out HB.out) | (with_reducible refine Kd.C_alloc ?_ _) | (with_reducible refine Kd.C_drewN ?_ _) | (with_reducible refine Kd.C_drew ?_))); (case side2 => exact HC0_1.out); (case side3 => repeat (first | exact (Kd.C_below HR1_1.out HB.out) | (with_reducible refine Kd.C_alloc ?_ _) | (with_reducible refine Kd.C_drewN ?_ _) | (with_reducible refine Kd.C_drew ?_))); (case side4 => exact HC1_1.out); rintro e w' ⟨rfl, ⟨nd, rfl⟩⟩))
   go_ret
   exact ⟨by first | rfl | (simp [errW_none, errW_some] <;> rfl) | (simp [*, errW_none, errW_some] <;> rfl), by repeat (first | (with_reducible first | exact HB.out | apply below_alloc | apply pw_below_drewN | apply below_drew1 | refine below_set ?_ GE104.out | refine below_set ?_ GE105.out) | exact HB.out)⟩
  ·replace c5 := Bool.eq_false_iff.mpr c5
   subst c5
   have H1 : (some false) = some r := by rw [if_neg (show ¬ (false = true) by decide)] at H; exact H
   clear H
   have H := H1
   clear H1
   obtain rfl := Option.some.inj H
   go_enter Tryz.func142, Tryz.ntmps142
   go_wp2_with (first | ((with_reducible refine gate_dst (N := 2) rfl ?_); (try (refine gate_guard (by rfl) ?_; dsimp only)); refine box_event ?hg (N := 2) ?hd (cs := #[.int .i64 a0_0, .slice A0_1 l0_1.length c0_1, .slice A0_2 l0_2.length c0_2]) (t := 51) ?hr ?_; (case hd => rfl); (case hg => rfl); (case hr => first | (go_simp; done) | (go_simp; rfl)); intro gb104 hg w11 hbox hb; have n0_ := Aside0.mk (below_step (by repeat (first | (with_reducible first | exact HB.out | apply below_alloc | apply pw_below_drewN | apply below_drew1) | exact HB.out)) hb); have n1_ := Aside0.mk (hbox); have n2_ := Aside0.mk ((by rw [hg]; exact (below_size (by repeat (first | (with_reducible first | exact HB.out | apply below_alloc | apply pw_below_drewN | apply below_drew1) | exact HB.out))) : w.heap.size ≤ gb104)); have n3_ := Aside0.mk ((by rw [hg]; exact (below_size (by repeat (first | (with_reducible first | exact HB.out | apply below_alloc | apply pw_below_drewN | apply below_drew1) | exact HB.out))) : w.heap.size ≤ gb104)); clear HB; have HB := n0_; have BK104 := n1_; have GW104 := n2_; have GE104 := n3_; clear n0_ n1_ n2_ n3_; clear hb hbox hg) | ((with_reducible refine gate_dst (N := 3) rfl ?_); (try (refine gate_guard (by rfl) ?_; dsimp only)); refine box_event ?hg (N := 3) ?hd (cs := #[.int .i64 a1_0, .slice A1_1 l1_1.length c1_1, .slice A1_2 l1_2.length c1_2]) (t := 51) ?hr ?_; (case hd => rfl); (case hg => rfl); (case hr => first | (go_simp; done) | (go_simp; rfl)); intro gb105 hg w12 hbox hb; have n0_ := Aside0.mk (blk_below (g := gb104) (o := .cells #[.int .i64 a0_0, .slice A0_1 l0_1.length c0_1, .slice A0_2 l0_2.length c0_2] 51 (0, 0)) (by (with_reducible repeat (first | refine blk_drewN ?_ _ | refine blk_drew ?_ | refine blk_alloc ?_ _)); exact BK104.out) hb); have n1_ := Aside0.mk (below_step (by repeat (first | (with_reducible first | exact HB.out | apply below_alloc | apply pw_below_drewN | apply below_drew1 | refine below_set ?_ GE104.out) | exact HB.out)) hb); have n2_ := Aside0.mk (hbox); have n3_ := Aside0.mk ((by rw [hg]; exact (below_size (by repeat (first | (with_reducible first | exact HB.out | apply below_alloc | apply pw_below_drewN | apply below_drew1 | refine below_set ?_ GE104.out) | exact HB.out))) : w.heap.size ≤ gb105)); have n4_ := Aside0.mk ((by rw [hg]; exact (below_size (by repeat (first | (with_reducible first | exact HB.out | apply below_alloc | apply pw_below_drewN | apply below_drew1 | refine below_set ?_ GE104.out) | exact HB.out))) : w.heap.size ≤ gb105)); have n5_ := Aside0.mk ((by rw [hg]; exact Nat.ne_of_lt (blk_lt (g := gb104) (o := .cells #[.int .i64 a0_0, .slice A0_1 l0_1.length c0_1, .slice A0_2 l0_2.length c0_2] 51 (0, 0)) (by (with_reducible repeat (first | refine blk_drewN ?_ _ | refine blk_drew ?_ | refine blk_alloc ?_ _)); exact BK104.out)) : gb104 ≠ gb105)); have n6_ := Aside0.mk ((by rw [hg]; exact Nat.ne_of_gt (blk_lt (g := gb104) (o := .cells #[.int .i64 a0_0, .slice A0_1 l0_1.length c0_1, .slice A0_2 l0_2.length c0_2] 51 (0, 0)) (by (with_reducible repeat (first | refine blk_drewN ?_ _ | refine blk_drew ?_ | refine blk_alloc ?_ _)); exact BK104.out)) : gb105 ≠ gb104)); clear BK104; clear HB; have BK104 := n0_; have HB := n1_; have BK105 := n2_; have GW105 := n3_; have GE105 := n4_; have NB104_105 := n5_; have NB105_104 := n6_; clear n0_ n1_ n2_ n3_ n4_ n5_ n6_; clear hb hbox hg; have hnb13 := NB104_105.out; have hnc13 := NB105_104.out; have hcz14_0 : w12.cell? ⟨gb104, 0, none⟩ = some (.int .i64 a0_0) := (blk_cell BK104.out 0).trans rfl; have hcz14_1 : w12.cell? ⟨gb104, 1, none⟩ = some (.slice A0_1 l0_1.length c0_1) := (blk_cell BK104.out 1).trans rfl; have hcz14_2 : w12.cell? ⟨gb104, 2, none⟩ = some (.slice A0_2 l0_2.length c0_2) := (blk_cell BK104.out 2).trans rfl; have hfz14_0 := blk_frozen BK104.out 0; have hfz14_1 := blk_frozen BK104.out 1; have hfz14_2 := blk_frozen BK104.out 2; have hcz15_0 : w12.cell? ⟨gb105, 0, none⟩ = some (.int .i64 a1_0) := (blk_cell BK105.out 0).trans rfl; have hcz15_1 : w12.cell? ⟨gb105, 1, none⟩ = some (.slice A1_1 l1_1.length c1_1) := (blk_cell BK105.out 1).trans rfl; have hcz15_2 : w12.cell? ⟨gb105, 2, none⟩ = some (.slice A1_2 l1_2.length c1_2) := (blk_cell BK105.out 2).trans rfl; have hfz15_0 := blk_frozen BK105.out 0; have hfz15_1 := blk_frozen BK105.out 1; have hfz15_2 := blk_frozen BK105.out 2) | (go_at_call 128; (with_reducible refine (bytes_Equal.calls _ _ l0_1 _ _ l1_1 false _ ?side1 ?side2 ?side3 ?side4 A4.out).mono ?_); (case side1 => repeat (first | exact (Kd.C_below HR0_1.out HB.out) | (with_reducible refine Kd.C_alloc ?_ _) | (with_reducible refine Kd.C_drewN ?_ _) | (with_reducible refine Kd.C_drew ?_))); (case side2 => exact HC0_1.out); (case side3 => repeat (first | exact (Kd.C_below HR1_1.out HB.out) | (with_reducible refine Kd.C_alloc ?_ _) | (with_reducible refine Kd.C_drewN ?_ _) | (with_reducible refine Kd.C_drew ?_))); (case side4 => exact HC1_1.out); rintro e w' ⟨rfl, ⟨nd, rfl⟩⟩))
   go_ret
   exact ⟨by first | rfl | (simp [errW_none, errW_some] <;> rfl) | (simp [*, errW_none, errW_some] <;> rfl), by repeat (first | (with_reducible first | exact HB.out | apply below_alloc | apply pw_below_drewN | apply below_drew1 | refine below_set ?_ GE104.out | refine below_set ?_ GE105.out) | exact HB.out)⟩
 ·rw [if_neg c3] at H
  have c3b0 : (a0_0 == a1_0) = false := beq_eq_false_iff_ne.mpr c3
  have c3b1 : (a0_0 != a1_0) = true := bne_iff_ne.mpr c3
  obtain rfl := Option.some.inj H
  go_enter Tryz.func142, Tryz.ntmps142
  go_wp2_with (first | ((with_reducible refine gate_dst (N := 2) rfl ?_); (try (refine gate_guard (by rfl) ?_; dsimp only)); refine box_event ?hg (N := 2) ?hd (cs := #[.int .i64 a0_0, .slice A0_1 l0_1.length c0_1, .slice A0_2 l0_2.length c0_2]) (t := 51) ?hr ?_; (case hd => rfl); (case hg => rfl); (case hr => first | (go_simp; done) | (go_simp; rfl)); intro gb104 hg w16 hbox hb; have n0_ := Aside0.mk (below_step (by repeat (first | (with_reducible first | exact HB.out | apply below_alloc | apply pw_below_drewN | apply below_drew1) | exact HB.out)) hb); have n1_ := Aside0.mk (hbox); have n2_ := Aside0.mk ((by rw [hg]; exact (below_size (by repeat (first | (with_reducible first | exact HB.out | apply below_alloc | apply pw_below_drewN | apply below_drew1) | exact HB.out))) : w.heap.size ≤ gb104)); have n3_ := Aside0.mk ((by rw [hg]; exact (below_size (by repeat (first | (with_reducible first | exact HB.out | apply below_alloc | apply pw_below_drewN | apply below_drew1) | exact HB.out))) : w.heap.size ≤ gb104)); clear HB; have HB := n0_; have BK104 := n1_; have GW104 := n2_; have GE104 := n3_; clear n0_ n1_ n2_ n3_; clear hb hbox hg) | ((with_reducible refine gate_dst (N := 3) rfl ?_); (try (refine gate_guard (by rfl) ?_; dsimp only)); refine box_event ?hg (N := 3) ?hd (cs := #[.int .i64 a1_0, .slice A1_1 l1_1.length c1_1, .slice A1_2 l1_2.length c1_2]) (t := 51) ?hr ?_; (case hd => rfl); (case hg => rfl); (case hr => first | (go_simp; done) | (go_simp; rfl)); intro gb105 hg w17 hbox hb; have n0_ := Aside0.mk (blk_below (g := gb104) (o := .cells #[.int .i64 a0_0, .slice A0_1 l0_1.length c0_1, .slice A0_2 l0_2.length c0_2] 51 (0, 0)) (by (with_reducible repeat (first | refine blk_drewN ?_ _ | refine blk_drew ?_ | refine blk_alloc ?_ _)); exact BK104.out) hb); have n1_ := Aside0.mk (below_step (by repeat (first | (with_reducible first | exact HB.out | apply below_alloc | apply pw_below_drewN | apply below_drew1 | refine below_set ?_ GE104.out) | exact HB.out)) hb); have n2_ := Aside0.mk (hbox); have n3_ := Aside0.mk ((by rw [hg]; exact (below_size (by repeat (first | (with_reducible first | exact HB.out | apply below_alloc | apply pw_below_drewN | apply below_drew1 | refine below_set ?_ GE104.out) | exact HB.out))) : w.heap.size ≤ gb105)); have n4_ := Aside0.mk ((by rw [hg]; exact (below_size (by repeat (first | (with_reducible first | exact HB.out | apply below_alloc | apply pw_below_drewN | apply below_drew1 | refine below_set ?_ GE104.out) | exact HB.out))) : w.heap.size ≤ gb105)); have n5_ := Aside0.mk ((by rw [hg]; exact Nat.ne_of_lt (blk_lt (g := gb104) (o := .cells #[.int .i64 a0_0, .slice A0_1 l0_1.length c0_1, .slice A0_2 l0_2.length c0_2] 51 (0, 0)) (by (with_reducible repeat (first | refine blk_drewN ?_ _ | refine blk_drew ?_ | refine blk_alloc ?_ _)); exact BK104.out)) : gb104 ≠ gb105)); have n6_ := Aside0.mk ((by rw [hg]; exact Nat.ne_of_gt (blk_lt (g := gb104) (o := .cells #[.int .i64 a0_0, .slice A0_1 l0_1.length c0_1, .slice A0_2 l0_2.length c0_2] 51 (0, 0)) (by (with_reducible repeat (first | refine blk_drewN ?_ _ | refine blk_drew ?_ | refine blk_alloc ?_ _)); exact BK104.out)) : gb105 ≠ gb104)); clear BK104; clear HB; have BK104 := n0_; have HB := n1_; have BK105 := n2_; have GW105 := n3_; have GE105 := n4_; have NB104_105 := n5_; have NB105_104 := n6_; clear n0_ n1_ n2_ n3_ n4_ n5_ n6_; clear hb hbox hg; have hnb18 := NB104_105.out; have hnc18 := NB105_104.out; have hcz19_0 : w17.cell? ⟨gb104, 0, none⟩ = some (.int .i64 a0_0) := (blk_cell BK104.out 0).trans rfl; have hcz19_1 : w17.cell? ⟨gb104, 1, none⟩ = some (.slice A0_1 l0_1.length c0_1) := (blk_cell BK104.out 1).trans rfl; have hcz19_2 : w17.cell? ⟨gb104, 2, none⟩ = some (.slice A0_2 l0_2.length c0_2) := (blk_cell BK104.out 2).trans rfl; have hfz19_0 := blk_frozen BK104.out 0; have hfz19_1 := blk_frozen BK104.out 1; have hfz19_2 := blk_frozen BK104.out 2; have hcz20_0 : w17.cell? ⟨gb105, 0, none⟩ = some (.int .i64 a1_0) := (blk_cell BK105.out 0).trans rfl; have hcz20_1 : w17.cell? ⟨gb105, 1, none⟩ = some (.slice A1_1 l1_1.length c1_1) := (blk_cell BK105.out 1).trans rfl; have hcz20_2 : w17.cell? ⟨gb105, 2, none⟩ = some (.slice A1_2 l1_2.length c1_2) := (blk_cell BK105.out 2).trans rfl; have hfz20_0 := blk_frozen BK105.out 0; have hfz20_1 := blk_frozen BK105.out 1; have hfz20_2 := blk_frozen BK105.out 2))
  go_ret
  exact ⟨by first | rfl | (simp [errW_none, errW_some] <;> rfl) | (simp [*, errW_none, errW_some] <;> rfl), by repeat (first | (with_reducible first | exact HB.out | apply below_alloc | apply pw_below_drewN | apply below_drew1 | refine below_set ?_ GE104.out | refine below_set ?_ GE105.out) | exact HB.out)⟩

end Go.Proofs.YtcbmjmphicfgpaaGreatDoor.PT
end

section
set_option linter.unusedVariables false
set_option linter.unusedSimpArgs false
namespace Go.Proofs.YtcbmjmphicfgpaaGreatDoor.Tlv
open Go.RowKit Go.Proofs.YtcbmjmphicfgpaaGreatDoorW.PrintWords Go.Proofs.YtcbmjmphicfgpaaGreatDoorW.PrintLast Go.Proofs.YtcbmjmphicfgpaaGreatDoorW.PrintMore Go.Proofs.YtcbmjmphicfgpaaGreatDoor.PT

def eqB (x y : List Int) : Bool := (strOfNums x).toList == (strOfNums y).toList
theorem eqB_rfl (x : List Int) : eqB x x = true := by unfold eqB; exact beq_self_eq_true _
def sameP (a b : T) : Bool := match writeP a with
 | .err _ => false
 | .ok x => match writeP b with
  | .err _ => false
  | .ok y => eqB x y
theorem writeP_err {t : T} {x : Int} (h : writeP t = .err x) : x = 2 ∨ x = 4 ∨ x = 5 := by
 unfold writeP at h
 split at h
 ·injection h with h; omega
 ·split at h
  ·injection h with h; omega
  ·split at h
   ·injection h with h; omega
   ·cases h
/-- What Write gives, in one form. -/
def WriteUni (w : World) (n : T) (e : Ending) (w' : World) : Prop := ∃ A l c x, e = .returned (.tuple #[.slice A (List.length l) c, .int .i64 x]) ∧ ((x ≠ 0 ∧ writeP n = .err x) ∨ (x = 0 ∧ writeP n = .ok l)) ∧ (Kd.int .u8).R 5 w' w.heap.size (fun _ => True) (.slice A l.length c) l ∧ Below w.heap.size w w'
theorem WritePost.uni {w : World} {n : T} {e : Ending} {w' : World} (h : WritePost w n e w') : WriteUni w n e w' := by
 unfold WritePost at h
 cases hq : writeP n with
 | err x =>
  rw [hq] at h
  obtain ⟨rfl, hb⟩ := h
  exact ⟨none, [], 0, x, rfl, .inl ⟨by have := writeP_err hq; omega, hq⟩, Kd.R_nil _ _ _ _ _, hb⟩
 | ok l =>
  rw [hq] at h
  obtain ⟨A, c, rfl, ho, hb⟩ := h
  exact ⟨A, l, c, 0, rfl, .inr ⟨rfl, hq⟩, ho, hb⟩

def resW : Res (List Int) → List Int × Int
 | .err e => ([], e)
 | .ok l => (l, 0)
/-- What Write gives, with no bytes beside an error. -/
def WriteR (w : World) (n : T) (e : Ending) (w' : World) : Prop := ∃ A l c x, e = .returned (.tuple #[.slice A (List.length l) c, .int .i64 x]) ∧ resW (writeP n) = (l, x) ∧ (Kd.int .u8).R 5 w' w.heap.size (fun _ => True) (.slice A l.length c) l ∧ Below w.heap.size w w'
theorem WritePost.R {w : World} {n : T} {e : Ending} {w' : World} (h : WritePost w n e w') : WriteR w n e w' := by
 unfold WritePost at h
 unfold WriteR
 cases hq : writeP n with
 | err x =>
  rw [hq] at h
  obtain ⟨rfl, hb⟩ := h
  exact ⟨none, [], 0, x, rfl, rfl, Kd.R_nil _ _ _ _ _, hb⟩
 | ok l =>
  rw [hq] at h
  obtain ⟨A, c, rfl, ho, hb⟩ := h
  exact ⟨A, l, c, 0, rfl, rfl, ho, hb⟩

set_option maxHeartbeats 4000000 in
set_option maxRecDepth 100000 in
theorem same_walk (a b : T) (ha : rightT a = true → sizeT a ≤ 100000000) (hb : rightT b = true → sizeT b ≤ 100000000) (A1 : Option Addr) (c1 : Nat) (A2 : Option Addr) (c2 : Nat) (B1 : Option Addr) (d1 : Nat) (B2 : Option Addr) (d2 : Nat) (w : World) (hna : NodeAt w a A1 c1 A2 c2) (hnb : NodeAt w b B1 d1 B2 d2) :
 Calls Tryz.prog 88 #[.agg #[.int .i64 a.f0, .slice A1 a.f1.length c1, .slice A2 a.f2.length c2], .agg #[.int .i64 b.f0, .slice B1 b.f1.length d1, .slice B2 b.f2.length d2]] w fun e w' => e = .returned (.bool (sameP a b)) ∧ Below w.heap.size w w' := by
 have HW1 := Lib.hid (fun (w1 : World) (hB : Below w.heap.size w w1) => write_walk a ha A1 c1 A2 c2 w1 (hna.below hB))
 have HW2 := Lib.hid (fun (w1 : World) (hB : Below w.heap.size w w1) => write_walk b hb B1 d1 B2 d2 w1 (hnb.below hB))
 have hbox : ((w.alloc (.cells #[.int .i64 a.f0, .slice A1 a.f1.length c1, .slice A2 a.f2.length c2] 51)).alloc (.cells #[.int .i64 b.f0, .slice B1 b.f1.length d1, .slice B2 b.f2.length d2] 51)).heap[w.heap.size + 1]? = some (.cells #[.int .i64 b.f0, .slice B1 b.f1.length d1, .slice B2 b.f2.length d2] 51 (0, 0)) := by
  have := heap_alloc_new (w.alloc (.cells #[.int .i64 a.f0, .slice A1 a.f1.length c1, .slice A2 a.f2.length c2] 51)) (.cells #[.int .i64 b.f0, .slice B1 b.f1.length d1, .slice B2 b.f2.length d2] 51)
  simpa using this
 have hB : Below w.heap.size w ((w.alloc (.cells #[.int .i64 a.f0, .slice A1 a.f1.length c1, .slice A2 a.f2.length c2] 51)).alloc (.cells #[.int .i64 b.f0, .slice B1 b.f1.length d1, .slice B2 b.f2.length d2] 51)) := ((Below.refl _ _).alloc (Nat.le_refl _) _).alloc (by simp) _
 have HBOX := Lib.hid hbox
 have HB := Lib.hid hB
 clear hbox hB hna hnb ha hb
 generalize hSP : sameP a b = sp
 go_enter Tryz.func88, Tryz.ntmps88
 go_wp2_with (fail)
 refine (HW1.out _ HB.out).mono ?_
 rintro e w2 h2
 obtain ⟨X1, l1, e1, x1, rfl, hx1, hr1, hB2⟩ := WritePost.uni h2
 have hb2 := (hB2.block _ (heap_lt HBOX.out)).trans HBOX.out
 have hBw2 := HB.out.trans (hB2.mono HB.out.size)
 have a0 := Lib.cell_of_heap hb2 0
 have a1 := Lib.cell_of_heap hb2 1
 have a2 := Lib.cell_of_heap hb2 2
 have HB2 := Lib.hid hBw2
 have HR1 := Lib.hid hr1
 have HX1 := Lib.hid hx1
 clear h2 hB2 hb2 hBw2 hr1 hx1
 go_wp2_with (fail)
 refine (HW2.out _ HB2.out).mono ?_
 rintro e w3 h3
 obtain ⟨X2, l2, e2, x2, rfl, hx2, hr2, hB3⟩ := WritePost.uni h3
 have hBw3 := HB2.out.trans (hB3.mono HB2.out.size)
 have HB3 := Lib.hid hBw3
 have HR13 := Lib.hid (Kd.R_below HR1.out hB3)
 have HR2 := Lib.hid hr2
 clear h3 hB3 hBw3 hr2 a0 a1 a2
 rcases HX1.out with ⟨n1, q1⟩ | ⟨rfl, q1⟩
 ·have hp : sp = false := by rw [← hSP]; unfold sameP; rw [q1]
  clear hSP
  subst hp
  have hn1 := eq_false n1
  have hn1' : decide (x1 = 0) = false := decide_eq_false n1
  clear HX1 hx2 n1 q1
  go_wp2
  go_ret
  exact ⟨by simp [hn1], HB3.out⟩
 ·rcases hx2 with ⟨n2, q2⟩ | ⟨rfl, q2⟩
  ·have hp : sp = false := by rw [← hSP]; unfold sameP; rw [q1, q2]
   clear hSP
   subst hp
   have hn2 := eq_false n2
   have hn2' : decide (x2 = 0) = false := decide_eq_false n2
   clear HX1 n2 q1 q2
   go_wp2
   go_ret
   exact ⟨by simp [hn2], HB3.out⟩
  ·have hp : sp = eqB l1 l2 := by rw [← hSP]; unfold sameP; rw [q1, q2]
   clear hSP
   subst hp
   clear HX1 q1 q2
   obtain ⟨_, _, f1, g1, k1⟩ := Kd.R_reads HR13.out
   injection f1 with f1 _ f1'
   subst f1 f1'
   obtain ⟨_, _, f2, g2, k2⟩ := Kd.R_reads HR2.out
   injection f2 with f2 _ f2'
   subst f2 f2'
   have HEQ := Lib.hid (bytes_Equal.calls X1 e1 l1 X2 e2 l2 (eqB l1 l2) w3 k1 g1 k2 g2 rfl)
   clear g1 k1 g2 k2
   go_wp2_with (fail)
   refine HEQ.out.mono ?_
   rintro e w4 ⟨rfl, hd⟩
   have hBf := HB3.out.trans (hd.below.mono HB3.out.size)
   clear hd
   go_wp2
   go_ret
   exact ⟨rfl, hBf⟩

set_option maxHeartbeats 4000000 in
set_option maxRecDepth 100000 in
theorem clone_walk (A : Option Addr) (c : Nat) (l : List Int) (w : World) (hr : ReadsInt w .u8 A l.length l) (hc : l.length ≤ c) (hl : l.length ≤ 1000000) :
 Calls Tryz.prog 120 #[.slice A l.length c] w fun e w' => ∃ A' c', e = .returned (.slice A' l.length c') ∧ (Kd.int .u8).R 5 w' w.heap.size (fun _ => True) (.slice A' l.length c') l ∧ Below w.heap.size w w' := by
 cases A with
 | none =>
  have h0 : l = [] := by
   have := hr.2.2
   cases l with
   | nil => rfl
   | cons x l => obtain ⟨ad, e, _⟩ := this (by simp); cases e
  subst h0
  clear hr
  have hq : ∀ (c : Nat) (w : World), (binOp .eql 29 (.slice none 0 c) (.slice none 0 0)).run Tryz.prog w = .ok (.bool true) w := fun _ _ => rfl
  go_enter Tryz.func120, Tryz.ntmps120
  go_wp2
  go_ret
  exact ⟨none, 0, rfl, Kd.R_nil _ _ _ _ _, Below.refl _ _⟩
 | some ad =>
  have hq : ∀ (n c : Nat) (w : World), (binOp .eql 29 (.slice (some ad) n c) (.slice none 0 0)).run Tryz.prog w = .ok (.bool false) w := fun _ _ _ => rfl
  have HAP := Lib.hid (fun (ops : Array Oper) (o : Oper) (a : Act) (Q : Exit → Act → World → Prop) (rest : List Oper) (s x : Operand) hgd ho hs hx h =>
   add_in (ops := ops) (o := o) (a := a) (Q := Q) (rest := rest) (w.alloc (.cells #[] 5)) w.heap.size (some ⟨w.heap.size, 0, none⟩) 0 [] (some ad) c l l.length s x hgd ho hs hx
    (own0 w w.heap.size (fun k => w.heap.size ≤ k) (Nat.le_refl _) (Nat.le_refl _)) (ReadsInt_below hr ((Below.refl _ _).alloc (Nat.le_refl _) _)) rfl (by simp) (by simp; omega) h)
  clear hr
  go_enter Tryz.func120, Tryz.ntmps120
  go_wp2_with ((with_reducible refine at_dst 7 ?_); go_must (refine HAP.out _ _ _ _ _ (.tmp 5) (.tmp 6) rfl rfl rfl rfl ?_); rintro w1 A1 c1 ho1 hb1 hg1; rw [List.nil_append] at ho1; have HO1 := Lib.hid ho1; have HB1 := Lib.hid hb1; clear ho1 hb1 hg1)
  go_ret
  exact ⟨A1, c1, by simp, Kd.R_mono HO1.out (fun _ _ => trivial), ((Below.refl _ _).alloc (Nat.le_refl _) _).trans HB1.out⟩

end Go.Proofs.YtcbmjmphicfgpaaGreatDoor.Tlv
end

section
set_option linter.unusedVariables false
set_option linter.unusedSimpArgs false
namespace Go.Proofs.YtcbmjmphicfgpaaGreatDoor.Tlv
open Go.RowKit Go.Proofs.YtcbmjmphicfgpaaGreatDoorW.PrintWords Go.Proofs.YtcbmjmphicfgpaaGreatDoorW.PrintLast Go.Proofs.YtcbmjmphicfgpaaGreatDoorW.PrintMore Go.Proofs.YtcbmjmphicfgpaaGreatDoor.PT

/-- Bytes without noughts ahead. -/
def stripZ : List Int → List Int
 | [] => []
 | x :: l => if x = 0 then stripZ l else x :: l
theorem stripZ_len : ∀ l : List Int, (stripZ l).length ≤ l.length
 | [] => Nat.le_refl _
 | x :: l => by
  rw [stripZ]
  split
  ·have := stripZ_len l; simp; omega
  ·exact Nat.le_refl _
theorem stripZ_mem : ∀ (l : List Int) (v : Int), v ∈ stripZ l → v ∈ l
 | [], v, h => h
 | x :: l, v, h => by
  rw [stripZ] at h
  split at h
  ·exact List.mem_cons_of_mem _ (stripZ_mem l v h)
  ·exact h
theorem stripZ_nz {l : List Int} {x : Int} (h : x ≠ 0) : stripZ (x :: l) = x :: l := by rw [stripZ, if_neg h]
theorem stripZ_twice : ∀ l : List Int, stripZ (stripZ l) = stripZ l
 | [] => rfl
 | x :: l => by
  by_cases h : x = 0
  ·rw [stripZ, if_pos h, stripZ_twice l]
  ·rw [stripZ_nz h, stripZ_nz h]
theorem stripZ_head {l m : List Int} {x : Int} (h : stripZ l = x :: m) : x ≠ 0 := by
 induction l with
 | nil => cases h
 | cons y l ih =>
  by_cases h0 : y = 0
  ·rw [stripZ, if_pos h0] at h; exact ih h
  ·rw [stripZ_nz h0] at h
   injection h with h _
   omega
def TlbPost (S : List Int) (w : World) (e : Ending) (w' : World) : Prop := ∃ A' c', e = .returned (.slice A' (List.length S) c') ∧ ReadsInt w .u8 A' S.length S ∧ S.length ≤ c' ∧ w = w'
set_option maxHeartbeats 1000000 in
set_option maxRecDepth 100000 in
theorem tlb_walk (A : Option Addr) (c : Nat) (l : List Int) (w : World) (hr : ReadsInt w .u8 A l.length l) (hc : l.length ≤ c) (hl : l.length ≤ 1000000000) :
 Calls Tryz.prog 143 #[.slice A l.length c, .int .u8 0] w (TlbPost (stripZ l) w) := by
 obtain ⟨i0, hi, hz0, hz1, hz2⟩ := info_parts infoByte
 have HI := Lib.hid (And.intro hi hz1)
 have HR := Lib.hid hr
 generalize hS : stripZ l = S
 have HS := Lib.hid hS
 clear hi hz0 hz1 hz2 hr hS
 go_enter Tryz.func143, Tryz.ntmps143
 go_wp2
 go_loop [0] (fun t => ∃ A' c' m, t = .slice A' (List.length m) c' ∧ ReadsInt w .u8 A' m.length m ∧ m.length ≤ c' ∧ m.length ≤ 1000000000 ∧ stripZ m = S) (fun t => lenV t)
 case atStart => exact ⟨A, c, l, rfl, HR.out, hc, hl, HS.out⟩
 case round =>
  obtain ⟨A1, c1, m, rfl, h1, h2, h3, h4⟩ := hrel
  cases m with
  | nil =>
   have hs : S = [] := by rw [← h4]; rfl
   clear h4
   have e0 : ([] : List Int).length = 0 := rfl
   rw [e0]
   clear HS
   subst hs
   go_wp2
   go_ret
   exact ⟨none, 0, rfl, reads_of_C (C_nil _ _ _), Nat.le_refl _, rfl⟩
  | cons x m =>
   obtain ⟨ad, e, hcell⟩ := h1.2.2 (by simp)
   subst e
   have hx0 := hcell 0 (by simp)
   replace hx0 : w.cell? ad = some (.int .u8 x) := by simpa [Addr.add] using hx0
   have el : (x :: m).length = m.length + 1 := rfl
   obtain ⟨A2, hcut, hcr, hcc⟩ := print_cut_int (P := Tryz.prog) (k := .u8) 29 5 Tryz.underlying29 HI.out.1 HI.out.2 (some ad) c1 (x :: m) 1 (by omega) (by simp; omega) h2
   have HM := Lib.hid (And.intro h1 (And.intro h2 (And.intro h3 (And.intro h4 (And.intro hcr hcc)))))
   have hd1 := eq_false (show ¬ (((m.length + 1 : Nat) : Int) = 0) by omega)
   have hd2 : (((m.length + 1 : Nat) : Int) == 0) = false := beq_eq_false_iff_ne.2 (by omega)
   have hd3 := eq_true (show (0 : Int) < ((m.length + 1 : Nat) : Int) by omega)
   have hd4 : decide ((0 : Int) < ((m.length + 1 : Nat) : Int)) = true := decide_eq_true (by omega)
   rw [el] at hcut ⊢
   clear h1 h2 h3 h4 hcr hcc hcell HS el
   by_cases h0 : x = 0
   ·subst h0
    go_wp2
    go_round
    case rel =>
     obtain ⟨g1, g2, g3, g4, g5, g6⟩ := HM.out
     have g5 := g5 w g1
     have ed : (((0 : Int) :: m).drop (Int.toNat 1)) = m := rfl
     rw [ed] at g5 g6
     exact ⟨A2, _, m, rfl, g5, by first | exact g6 | (simpa using g6), by simp at g3; omega, by rw [← g4, stripZ, if_pos rfl]⟩
    case measure => simp [lenV]
   ·have h0a := eq_false h0
    have h0b : (x == 0) = false := beq_eq_false_iff_ne.2 h0
    have h0c : decide (x = 0) = false := decide_eq_false h0
    have hS2 : S = x :: m := by rw [← HM.out.2.2.2.1, stripZ_nz h0]
    subst hS2
    have el : (x :: m).length = m.length + 1 := rfl
    clear h0
    go_wp2
    go_ret
    exact ⟨some ad, c1, rfl, HM.out.1, HM.out.2.1, rfl⟩

set_option maxHeartbeats 1000000 in
set_option maxRecDepth 100000 in
theorem trim_walk (A : Option Addr) (c : Nat) (l : List Int) (w : World) (hr : (Kd.int .u8).C w A l.length l) (hc : l.length ≤ c) (hl : l.length ≤ 1000000000) :
 Calls Tryz.prog 123 #[.slice A l.length c, .string ⟨#[0]⟩] w fun e w' => ∃ A' c', e = .returned (.slice A' (stripZ l).length c') ∧ (Kd.int .u8).C w' A' (stripZ l).length (stripZ l) ∧ (stripZ l).length ≤ c' ∧ Below w.heap.size w w' := by
 by_cases h0 : l = []
 ·subst h0
  clear hr hc
  have e0 : ([] : List Int).length = 0 := rfl
  have es : stripZ [] = [] := rfl
  rw [es, e0]
  go_enter Tryz.func123, Tryz.ntmps123
  go_wp2
  go_ret
  exact ⟨none, 0, rfl, C_nil _ _ _, Nat.le_refl _, Below.refl _ _⟩
 ·have hp : 0 < l.length := List.length_pos_iff.2 h0
  have h1 := eq_false (show ¬ ((l.length : Int) = 0) by omega)
  have h2 : ((l.length : Int) == 0) = false := beq_eq_false_iff_ne.2 (by omega)
  have h3 := eq_false (show ¬ (l.length = 0) by omega)
  have h4 := eq_false h0
  have HT := Lib.hid (tlb_walk A c l w (reads_of_C hr) hc hl)
  clear hr hp h0
  go_enter Tryz.func123, Tryz.ntmps123
  go_wp2_with (fail)
  refine HT.out.mono ?_
  rintro e w2 ⟨A', c', rfl, h1, h2, rfl⟩
  have HV := Lib.hid (And.intro h1 h2)
  clear h1 h2 HT
  go_wp2
  go_ret
  exact ⟨A', c', rfl, C_of_reads HV.out.1 rfl, HV.out.2, Below.refl _ _⟩

end Go.Proofs.YtcbmjmphicfgpaaGreatDoor.Tlv
end

section
set_option linter.unusedVariables false
set_option linter.unusedSimpArgs false
namespace Go.Proofs.YtcbmjmphicfgpaaGreatDoor.Tlv
open Go.RowKit Go.Proofs.YtcbmjmphicfgpaaGreatDoorW.PrintWords Go.Proofs.YtcbmjmphicfgpaaGreatDoorW.PrintLast Go.Proofs.YtcbmjmphicfgpaaGreatDoorW.PrintMore Go.Proofs.YtcbmjmphicfgpaaGreatDoor.PT

/-- Whole numbers that have been laid in a block of one's own. -/
theorem R_ints {k : IntKind} {w : World} {g t base : Nat} {l : List Int} {ok : Nat → Prop} (h : w.heap[g]? = some (.cells (l.map (Value.int k)).toArray t (0, 0))) (hb : base ≤ g) (hk : ok g) (hl : l.length ≤ 1000000) :
 (Kd.int k).R t w base ok (.slice (some ⟨g, 0, none⟩) l.length l.length) l :=
 ⟨fun k' h' => by
  have : g = k' := by simpa [Value.ownBlock] using h'
  subst this
  exact hk, l.map (Value.int k), ⟨by show (l.map (Value.int k)).length = l.length * 1; simp, .inr ⟨g, l.length, (l.map (Value.int k)).toArray, rfl, hb, h, Nat.le_refl _, by simp only [maxLen]; omega, by show (l.map (Value.int k)).toArray.size = l.length * 1; simp, by
   show (l.map (Value.int k)).take (l.length * 1) = _
   exact List.take_of_length_le (by simp)⟩⟩, Kd.reps_scalar l⟩
/-- A great number's bytes in an element. -/
def bigB (s : List Int) : List Int := match s with
 | [] => [0]
 | x :: l => if 128 ≤ x then 0 :: x :: l else x :: l
def bigT (l : List Int) : T := ⟨2, bigB (stripZ l), []⟩
theorem bigB_len (s : List Int) : (bigB s).length ≤ s.length + 1 := by
 cases s with
 | nil => simp [bigB]
 | cons x l => unfold bigB; simp only; split <;> simp

/-- An element of one body of one's own, put into its place. -/
theorem node_out {w w3 : World} {n0 n1 n2 : Value} {base : Nat} {ok : Nat → Prop} {A : Option Addr} {c : Nat} {l : List Int} (n : Nat) (hn : l.length = n) (tag : Int) (hb : w3.heap[w.heap.size]? = some (.cells #[n0, n1, n2] 51 (0, 0))) (hB : Below w.heap.size w w3) (hbase : w.heap.size < base) (hr : (Kd.int .u8).R 5 w3 base ok (.slice A l.length c) l) (W : World) (hW : W = ((w3.setCell ⟨w.heap.size, 0, none⟩ (.int .i64 tag)).setCell ⟨w.heap.size, 1, none⟩ (.slice A n c)).setCell ⟨w.heap.size, 2, none⟩ (.slice none 0 0)) :
 W.heap[w.heap.size]? = some (.cells #[.int .i64 tag, .slice A n c, .slice none 0 0] 51 (0, 0)) ∧ NodeR W w.heap.size W.heap.size ⟨tag, l, []⟩ (.slice A n c) (.slice none 0 0) ∧ Below w.heap.size w W := by
 subst hW
 subst hn
 refine ⟨heap_setCell_same _ _ 2 _ _ _ (heap_setCell_same _ _ 1 _ _ _ (heap_setCell_same _ _ 0 _ _ _ hb)), ?_, Below.setCell (Below.setCell (Below.setCell hB (p := ⟨w.heap.size, 0, none⟩) (Nat.le_refl _) _) (p := ⟨w.heap.size, 1, none⟩) (Nat.le_refl _) _) (p := ⟨w.heap.size, 2, none⟩) (Nat.le_refl _) _⟩
 have hm := Kd.R_mono (Kd.R_bound hr) (fun k hk => hk.2)
 have hmv : ∀ k, w.heap.size < k → (((w3.setCell ⟨w.heap.size, 0, none⟩ (.int .i64 tag)).setCell ⟨w.heap.size, 1, none⟩ (.slice A l.length c)).setCell ⟨w.heap.size, 2, none⟩ (.slice none 0 0)).heap[k]? = w3.heap[k]? := fun k hk =>
  (heap_setCell_other _ _ _ _ (by show k ≠ w.heap.size; omega)).trans ((heap_setCell_other _ _ _ _ (by show k ≠ w.heap.size; omega)).trans (heap_setCell_other _ _ _ _ (by show k ≠ w.heap.size; omega)))
 refine ⟨Kd.R_lower (Kd.R_mono (Kd.R_move hm (fun k hk => hmv k (by omega))) (fun k hk => ⟨by omega, by simpa using hk.2.1⟩)) (by omega), Kd.R_nil _ _ _ _ _⟩

set_option maxHeartbeats 4000000 in
set_option maxRecDepth 100000 in
theorem big_walk (A : Option Addr) (c : Nat) (l : List Int) (w : World) (hr : (Kd.int .u8).C w A l.length l) (hc : l.length ≤ c) (hv : ∀ x ∈ l, 0 ≤ x ∧ x < 256) (hl : l.length ≤ 500000) :
 Calls Tryz.prog 103 #[.slice A l.length c] w fun e w' => ∃ v1, e = .returned (.agg #[.int .i64 2, v1, .slice none 0 0]) ∧ NodeR w' w.heap.size w'.heap.size (bigT l) v1 (.slice none 0 0) ∧ Below w.heap.size w w' := by
 have hb0 : (w.alloc (.cells #[.int .i64 0, .slice none 0 0, .slice none 0 0] 51)).heap[w.heap.size]? = some (.cells #[.int .i64 0, .slice none 0 0, .slice none 0 0] 51 (0, 0)) := heap_alloc_new w _
 have hB1 : Below w.heap.size w (w.alloc (.cells #[.int .i64 0, .slice none 0 0, .slice none 0 0] 51)) := (Below.refl _ _).alloc (Nat.le_refl _) _
 have HTRIM := Lib.hid (trim_walk A c l _ (Kd.C_below hr hB1) hc (by omega))
 have hsl := stripZ_len l
 have hsv : ∀ x ∈ stripZ l, 0 ≤ x ∧ x < 256 := fun x hx => hv x (stripZ_mem l x hx)
 unfold bigT
 have hs3 : (stripZ l).length ≤ 500000 := by omega
 generalize stripZ l = s at HTRIM hsv hs3 ⊢
 have HB0 := Lib.hid hb0
 have HB1 := Lib.hid hB1
 have HSV := Lib.hid hsv
 clear hb0 hB1 hr hc hv hl hsl hsv
 go_enter Tryz.func103, Tryz.ntmps103
 go_wp2_with (fail)
 refine HTRIM.out.mono ?_
 rintro e w2 ⟨A2, c2, rfl, hr2, hc2, hB2⟩
 have hb2 := (hB2.block _ (heap_lt HB0.out)).trans HB0.out
 have hB := HB1.out.trans (hB2.mono HB1.out.size)
 have HR := Lib.hid hr2
 have HB := Lib.hid hB
 have HB2 := Lib.hid hb2
 have a0 := Lib.cell_of_heap hb2 0
 have a1 := Lib.cell_of_heap hb2 1
 have a2 := Lib.cell_of_heap hb2 2
 have f0 := Lib.frozen_of_heap hb2 0
 have f1 := Lib.frozen_of_heap hb2 1
 have f2 := Lib.frozen_of_heap hb2 2
 have hlt := heap_lt hb2
 clear hr2 hB hb2 hB2 HTRIM HB0 HB1
 cases s with
 | nil =>
  have e0 : ([] : List Int).length = 0 := rfl
  have h0b : (w2.alloc (.cells #[.int .u8 0] 5)).heap[w2.heap.size]? = some (.cells ([0].map (Value.int .u8)).toArray 5 (0, 0)) := heap_alloc_new w2 _
  have hal : Below w2.heap.size w2 (w2.alloc (.cells #[.int .u8 0] 5)) := (Below.refl _ _).alloc (Nat.le_refl _) _
  have HAP := Lib.hid (fun (ops : Array Oper) (o : Oper) (a : Act) (Q : Exit → Act → World → Prop) (rest : List Oper) (s1 x1 : Operand) hgd ho hs hx h =>
   add_in (ops := ops) (o := o) (a := a) (Q := Q) (rest := rest) (w2.alloc (.cells #[.int .u8 0] 5)) w2.heap.size (some ⟨w2.heap.size, 0, none⟩) 1 [0] A2 c2 ([] : List Int) ([] : List Int).length s1 x1 hgd ho hs hx
    (R_ints (l := [0]) h0b (Nat.le_refl _) (Nat.le_refl _) (by simp)) (ReadsInt_below (reads_of_C HR.out) hal) rfl (by simp) (by show 1 + _ ≤ _; omega) h)
  have HOLD : Hid (∀ w3, Below w2.heap.size (w2.alloc (.cells #[.int .u8 0] 5)) w3 → w3.heap[w.heap.size]? = some (.cells #[.int .i64 0, .slice none 0 0, .slice none 0 0] 51 (0, 0)) ∧ Below w.heap.size w w3) := by
   refine Lib.hid (fun w3 h3 => ⟨(h3.block _ hlt).trans ((Below.heap_alloc w2 _ _ hlt).trans HB2.out), ?_⟩)
   exact HB.out.trans ((hal.trans h3).mono HB.out.size)
  clear h0b hal hs3 HSV
  go_wp2_with ((with_reducible refine at_dst 16 ?_); go_must (refine HAP.out _ _ _ _ _ (.tmp 14) (.tmp 15) rfl rfl rfl rfl ?_); rintro w3 A3 c3 ho3 hb3 hg3; have ho3' := Lib.hid ho3; obtain ⟨hq, hBq⟩ := HOLD.out w3 hb3; have HQ := Lib.hid hq; have HBQ := Lib.hid hBq; have q0 := Lib.cell_of_heap hq 0; have q1 := Lib.cell_of_heap hq 1; have q2 := Lib.cell_of_heap hq 2; have g0 := Lib.frozen_of_heap hq 0; have g1 := Lib.frozen_of_heap hq 1; have g2 := Lib.frozen_of_heap hq 2; clear ho3 hb3 hg3 hq hBq HOLD HAP a0 a1 a2 f0 f1 f2)
  obtain ⟨z, hN, hF⟩ := node_out (l := [0]) 1 rfl 2 HQ.out HBQ.out hlt ho3'.out _ rfl
  generalize ((w3.setCell ⟨w.heap.size, 0, none⟩ (.int .i64 2)).setCell ⟨w.heap.size, 1, none⟩ (.slice A3 1 c3)).setCell ⟨w.heap.size, 2, none⟩ (.slice none 0 0) = w5 at z hN hF ⊢
  have z0 := Lib.cell_of_heap z 0
  have z1 := Lib.cell_of_heap z 1
  have z2 := Lib.cell_of_heap z 2
  refine bodyPost_ret (v := .agg #[.int .i64 2, .slice A3 1 c3, .slice none 0 0]) (by simp [results, Tryz.results103, go_sem, z0, z1, z2]) rfl ?_
  exact ⟨_, rfl, hN, hF⟩
 | cons x l =>
  have el : (x :: l).length = l.length + 1 := rfl
  have hx := HSV.out x List.mem_cons_self
  have hd1 := eq_false (show ¬ (((l.length + 1 : Nat) : Int) = 0) by omega)
  have hd2 : (((l.length + 1 : Nat) : Int) == 0) = false := beq_eq_false_iff_ne.2 (by omega)
  by_cases h128 : 128 ≤ x
  ·have hg1 := eq_true h128
   have hg2 : decide (128 ≤ x) = true := decide_eq_true h128
   have hbb : bigB (x :: l) = 0 :: x :: l := by unfold bigB; simp only; rw [if_pos h128]
   have HBB := Lib.hid hbb
   obtain ⟨ad, e, hcell⟩ := (reads_of_C HR.out).2.2 (by simp)
   subst e
   have hx0 := hcell 0 (by simp)
   replace hx0 : w2.cell? ad = some (.int .u8 x) := by simpa [Addr.add] using hx0
   rw [el]
   clear hcell hx hbb h128
   have h0b : (w2.alloc (.cells #[.int .u8 0] 5)).heap[w2.heap.size]? = some (.cells ([0].map (Value.int .u8)).toArray 5 (0, 0)) := heap_alloc_new w2 _
   have hal : Below w2.heap.size w2 (w2.alloc (.cells #[.int .u8 0] 5)) := (Below.refl _ _).alloc (Nat.le_refl _) _
   have HAP := Lib.hid (fun (ops : Array Oper) (o : Oper) (a : Act) (Q : Exit → Act → World → Prop) (rest : List Oper) (s1 x1 : Operand) hgd ho hs hx h =>
    add_in (ops := ops) (o := o) (a := a) (Q := Q) (rest := rest) (w2.alloc (.cells #[.int .u8 0] 5)) w2.heap.size (some ⟨w2.heap.size, 0, none⟩) 1 [0] (some ad) c2 (x :: l) (x :: l).length s1 x1 hgd ho hs hx
     (R_ints (l := [0]) h0b (Nat.le_refl _) (Nat.le_refl _) (by simp)) (ReadsInt_below (reads_of_C HR.out) hal) rfl (by simp) (by show 1 + _ ≤ _; omega) h)
   have HOLD : Hid (∀ w3, Below w2.heap.size (w2.alloc (.cells #[.int .u8 0] 5)) w3 → w3.heap[w.heap.size]? = some (.cells #[.int .i64 0, .slice none 0 0, .slice none 0 0] 51 (0, 0)) ∧ Below w.heap.size w w3) := by
    refine Lib.hid (fun w3 h3 => ⟨(h3.block _ hlt).trans ((Below.heap_alloc w2 _ _ hlt).trans HB2.out), ?_⟩)
    exact HB.out.trans ((hal.trans h3).mono HB.out.size)
   clear h0b hal hs3 HSV
   go_wp2_with ((with_reducible refine at_dst 16 ?_); go_must (refine HAP.out _ _ _ _ _ (.tmp 14) (.tmp 15) rfl rfl rfl rfl ?_); rintro w3 A3 c3 ho3 hb3 hg3; have ho3' := Lib.hid ho3; obtain ⟨hq, hBq⟩ := HOLD.out w3 hb3; have HQ := Lib.hid hq; have HBQ := Lib.hid hBq; have q0 := Lib.cell_of_heap hq 0; have q1 := Lib.cell_of_heap hq 1; have q2 := Lib.cell_of_heap hq 2; have g0 := Lib.frozen_of_heap hq 0; have g1 := Lib.frozen_of_heap hq 1; have g2 := Lib.frozen_of_heap hq 2; clear ho3 hb3 hg3 hq hBq HOLD HAP a0 a1 a2 f0 f1 f2)
   obtain ⟨z, hN, hF⟩ := node_out (l := 0 :: x :: l) (l.length + 1 + 1) rfl 2 HQ.out HBQ.out hlt ho3'.out _ rfl
   generalize ((w3.setCell ⟨w.heap.size, 0, none⟩ (.int .i64 2)).setCell ⟨w.heap.size, 1, none⟩ (.slice A3 (l.length + 1 + 1) c3)).setCell ⟨w.heap.size, 2, none⟩ (.slice none 0 0) = w5 at z hN hF ⊢
   have z0 := Lib.cell_of_heap z 0
   have z1 := Lib.cell_of_heap z 1
   have z2 := Lib.cell_of_heap z 2
   refine bodyPost_ret (v := .agg #[.int .i64 2, .slice A3 (l.length + 1 + 1) c3, .slice none 0 0]) (by simp [results, Tryz.results103, go_sem, z0, z1, z2]) rfl ?_
   exact ⟨_, rfl, by rw [HBB.out]; exact hN, hF⟩
  ·have hg1 := eq_false h128
   have hg2 : decide (128 ≤ x) = false := decide_eq_false h128
   have hbb : bigB (x :: l) = x :: l := by unfold bigB; simp only; rw [if_neg h128]
   have HBB := Lib.hid hbb
   obtain ⟨ad, e, hcell⟩ := (reads_of_C HR.out).2.2 (by simp)
   subst e
   have hx0 := hcell 0 (by simp)
   replace hx0 : w2.cell? ad = some (.int .u8 x) := by simpa [Addr.add] using hx0
   rw [el]
   have HCL := Lib.hid (clone_walk (some ad) c2 (x :: l) w2 (reads_of_C HR.out) hc2 (by omega))
   clear hcell hx hbb h128
   go_wp2_with (fail)
   refine HCL.out.mono ?_
   rintro e w3 ⟨A3, c3, rfl, ho3, hB3⟩
   rw [el]
   have hq := (hB3.block _ hlt).trans HB2.out
   have HQ := Lib.hid hq
   have HBQ := Lib.hid (HB.out.trans (hB3.mono HB.out.size))
   have HO := Lib.hid ho3
   have q0 := Lib.cell_of_heap hq 0
   have q1 := Lib.cell_of_heap hq 1
   have q2 := Lib.cell_of_heap hq 2
   have g0 := Lib.frozen_of_heap hq 0
   have g1 := Lib.frozen_of_heap hq 1
   have g2 := Lib.frozen_of_heap hq 2
   clear hq ho3 hB3 HCL a0 a1 a2 f0 f1 f2 hx0
   go_wp2
   obtain ⟨z, hN, hF⟩ := node_out (l := x :: l) (l.length + 1) rfl 2 HQ.out HBQ.out hlt HO.out _ rfl
   generalize ((w3.setCell ⟨w.heap.size, 0, none⟩ (.int .i64 2)).setCell ⟨w.heap.size, 1, none⟩ (.slice A3 (l.length + 1) c3)).setCell ⟨w.heap.size, 2, none⟩ (.slice none 0 0) = w5 at z hN hF ⊢
   have z0 := Lib.cell_of_heap z 0
   have z1 := Lib.cell_of_heap z 1
   have z2 := Lib.cell_of_heap z 2
   refine bodyPost_ret (v := .agg #[.int .i64 2, .slice A3 (l.length + 1) c3, .slice none 0 0]) (by simp [results, Tryz.results103, go_sem, z0, z1, z2]) rfl ?_
   exact ⟨_, rfl, by rw [HBB.out]; exact hN, hF⟩

end Go.Proofs.YtcbmjmphicfgpaaGreatDoor.Tlv
end

section
namespace Go.Proofs.YtcbmjmphicfgpaaGreatDoor.PT
open Go.RowKit Go.Proofs.YtcbmjmphicfgpaaGreatDoorW.PrintWords Go.Proofs.YtcbmjmphicfgpaaGreatDoorW.PrintLast Go.Proofs.YtcbmjmphicfgpaaGreatDoorW.PrintMore
attribute [local go_sem] max2_int min2_int max_two min_two max_three min_three max_four min_four   -- for this text's walks alone
set_option linter.unusedVariables false
set_option linter.unusedSimpArgs false

def scalar_Big.f (l0 : List Int) : Option (Int × List Int × List S51) := if l0.length ≤ 500000 ∧ (∀ x ∈ l0, 0 ≤ x ∧ x < 256) then some (2, Tlv.bigB (Tlv.stripZ l0), []) else none
theorem scalar_Big.calls (A0 : Option Addr) (c0 : Nat) (l0 : List Int) (r1 : Int) (r2 : List Int) (r3 : List S51) (w : World) (hr0 : Kd.C (Kd.int .u8) w A0 l0.length l0) (hc0 : l0.length ≤ c0) (h : scalar_Big.f l0 = some (r1, r2, r3)) :
 Calls Tryz.prog 103 #[.slice A0 l0.length c0] w fun e w' => ∃ v1_ v2_ : Value, e = .returned (.agg #[.int .i64 r1, v1_, v2_]) ∧ Kd.R (Kd.int .u8) 5 w' w.heap.size (fun _ => True) v1_ r2 ∧ Kd.R k51 51 w' w.heap.size (fun k_ => some k_ ≠ (v1_ : Value).ownBlock) v2_ r3 ∧ Below w.heap.size w w' := by
 unfold scalar_Big.f at h
 by_cases c : l0.length ≤ 500000 ∧ (∀ x ∈ l0, 0 ≤ x ∧ x < 256)
 ·rw [if_pos c] at h
  injection h with h; injection h with h1 h; injection h with h2 h3
  subst h1 h2 h3
  refine (Tlv.big_walk A0 c0 l0 w hr0 hc0 c.2 c.1).mono ?_
  rintro e w' ⟨v1, rfl, hn, hB⟩
  exact ⟨v1, _, rfl, Kd.R_mono hn.b (fun _ _ => trivial), Kd.R_nil _ _ _ _ _, hB⟩
 ·rw [if_neg c] at h; cases h

end Go.Proofs.YtcbmjmphicfgpaaGreatDoor.PT
end

section
namespace Go.Proofs.YtcbmjmphicfgpaaGreatDoor.PT
open Go.RowKit Go.Proofs.YtcbmjmphicfgpaaGreatDoorW.PrintWords Go.Proofs.YtcbmjmphicfgpaaGreatDoorW.PrintLast Go.Proofs.YtcbmjmphicfgpaaGreatDoorW.PrintMore
attribute [local go_sem] max2_int min2_int max_two min_two max_three min_three max_four min_four   -- for this text's walks alone
set_option linter.unusedVariables false
set_option linter.unusedSimpArgs false

mutual
def octet_Bytes.j0 : Nat → Int → Int → Bool → Option (List Int × Bool)
 | 0, _, _, _ => none
 | k + 1, x0, x1, x24 => if x24 = true then (some (([] : List Int), false)) else (if 0 ≤ x1 then (if (x1 : Int).toNat ≤ 281474976710656 then (octet_Bytes.l0 k x0 x1 (List.replicate (x1 : Int).toNat 0) (mn x1 8) 0) else (none)) else (none))
def octet_Bytes.l0 : Nat → Int → Int → List Int → Int → Int → Option (List Int × Bool)
 | 0, _, _, _, _, _ => none
 | k + 1, x0, x1, x6, x28, x29 => if x29 < x28 then (if 0 ≤ (wrap64 (8 * x29)) then (if 0 ≤ (wrap64 ((wrap64 (x1 - 1)) - x29)) then (if (wrap64 ((wrap64 (x1 - 1)) - x29)) < (x6.length : Int) then (octet_Bytes.l0 k x0 x1 (x6.set ((wrap64 ((wrap64 (x1 - 1)) - x29)) : Int).toNat ((shr .u64 x0 (wrap64 (8 * x29))) % 256)) x28 (wrap64 (x29 + 1))) else (none)) else (none)) else (none)) else (some (x6, true))
end
def octet_Bytes.f (k : Nat) (a0 : Int) (a1 : Int) : Option (List Int × Bool) := if a1 < 0 then (octet_Bytes.j0 k a0 a1 true) else (if a1 > 64 then (octet_Bytes.j0 k a0 a1 true) else (if a1 < 8 then (if 0 ≤ (wrap64 (8 * a1)) then (octet_Bytes.j0 k a0 a1 ((shr .u64 a0 (wrap64 (8 * a1))) != 0)) else (none)) else (octet_Bytes.j0 k a0 a1 false)))
theorem octet_Bytes.mono_l : ∀ k, (∀ y0 y1 y2, LeO (octet_Bytes.j0 k y0 y1 y2) (octet_Bytes.j0 (k + 1) y0 y1 y2)) ∧ (∀ y0 y1 y2 y3 y4, LeO (octet_Bytes.l0 k y0 y1 y2 y3 y4) (octet_Bytes.l0 (k + 1) y0 y1 y2 y3 y4))
 | 0 => ⟨fun _ _ _ r h => by simp [octet_Bytes.j0] at h, fun _ _ _ _ _ r h => by simp [octet_Bytes.l0] at h⟩
 | k + 1 => by
  obtain ⟨ih0, ih1⟩ := octet_Bytes.mono_l k
  refine ⟨?_, ?_⟩
  ·intro y0 y1 y2
   unfold octet_Bytes.j0
   repeat' first
   | (with_reducible exact ih0 _ _ _)
   | (with_reducible exact ih1 _ _ _ _ _)
   | (with_reducible exact LeO.refl _)
   | (with_reducible exact LeO.none _)
   | (with_reducible refine LeO.ite ?_ ?_)
   | (with_reducible refine LeO.bind ?_ (fun _ => ?_))
   | exact ih0 _ _ _
   | exact ih1 _ _ _ _ _
   | exact LeO.none _
   | refine LeO.ite ?_ ?_
   | refine LeO.bind ?_ (fun _ => ?_)
  ·intro y0 y1 y2 y3 y4
   unfold octet_Bytes.l0
   repeat' first
   | (with_reducible exact ih0 _ _ _)
   | (with_reducible exact ih1 _ _ _ _ _)
   | (with_reducible exact LeO.refl _)
   | (with_reducible exact LeO.none _)
   | (with_reducible refine LeO.ite ?_ ?_)
   | (with_reducible refine LeO.bind ?_ (fun _ => ?_))
   | exact ih0 _ _ _
   | exact ih1 _ _ _ _ _
   | exact LeO.none _
   | refine LeO.ite ?_ ?_
   | refine LeO.bind ?_ (fun _ => ?_)
theorem octet_Bytes.mono : ∀ a0 a1 k, LeO (octet_Bytes.f k a0 a1) (octet_Bytes.f (k + 1) a0 a1) := by
 intro a0 a1 k
 obtain ⟨ih0, ih1⟩ := octet_Bytes.mono_l k
 unfold octet_Bytes.f
 repeat' first
  | (with_reducible exact ih0 _ _ _)
  | (with_reducible exact ih1 _ _ _ _ _)
  | (with_reducible exact LeO.refl _)
  | (with_reducible exact LeO.none _)
  | (with_reducible refine LeO.ite ?_ ?_)
  | (with_reducible refine LeO.bind ?_ (fun _ => ?_))
  | exact ih0 _ _ _
  | exact ih1 _ _ _ _ _
  | exact LeO.none _
  | refine LeO.ite ?_ ?_
  | refine LeO.bind ?_ (fun _ => ?_)
set_option maxHeartbeats 8000000 in
set_option maxRecDepth 100000 in
theorem octet_Bytes.calls (k : Nat) (a0 : Int) (a1 : Int) (r1 : List Int) (r2 : Bool) (w : World) (h : octet_Bytes.f k a0 a1 = some (r1, r2)) :
 Calls Tryz.prog 152 #[.int .u64 a0, .int .i64 a1] w fun e w' => ∃ v0_ : Value, e = .returned (.tuple #[v0_, .bool r2]) ∧ Kd.R (Kd.int .u8) 5 w' w.heap.size (fun _ => True) v0_ r1 ∧ Below w.heap.size w w' := by
 have HB := Aside0.mk (Below.refl w.heap.size w)
 have H : (if a1 < 0 then (octet_Bytes.j0 k a0 a1 true) else (if a1 > 64 then (octet_Bytes.j0 k a0 a1 true) else (if a1 < 8 then (if 0 ≤ (wrap64 (8 * a1)) then (octet_Bytes.j0 k a0 a1 ((shr .u64 a0 (wrap64 (8 * a1))) != 0)) else (none)) else (octet_Bytes.j0 k a0 a1 false)))) = some (r1, r2) := h
 clear h
 have HC3 := Aside0.mk H
 clear H
 go_enter Tryz.func152, Tryz.ntmps152
 go_upto_region 1 with (fail)
 go_cut [24] (fun v24 wc => ∃ (kq : Nat) (x24_2 : Bool), v24 = .bool x24_2 ∧ Aside0 (octet_Bytes.j0 kq a0 a1 x24_2 = some (r1, r2)) ∧ Aside0 (kq ≤ k) ∧ Aside0 (Below w.heap.size w wc))
 case first =>
  have H := HC3.out
  clear HC3
  by_cases c4 : a1 < 0
  ·rw [if_pos c4] at H
   have c4b0 : decide (a1 < 0) = true := decide_eq_true c4
   clear c4
   (first | rw [c4b0] | (simp only [i64_w, i32_w]; rw [c4b0]) | skip)
   have H' := Aside0.mk H
   clear H
   go_wp2
   go_meet
   case rel => exact ⟨_, (true), (by first | rfl | (simp; done) | (simp [*]; done)), H', ⟨by first | omega | exact Nat.le_refl _⟩, ⟨by repeat (first | (with_reducible first | exact HB.out | apply below_alloc | apply pw_below_drewN | apply below_drew1) | exact HB.out)⟩⟩
  ·rw [if_neg c4] at H
   have c4b0 : decide (a1 < 0) = false := decide_eq_false c4
   clear c4
   (first | rw [c4b0] | (simp only [i64_w, i32_w]; rw [c4b0]) | skip)
   by_cases c5 : a1 > 64
   ·rw [if_pos c5] at H
    have c5b0 : decide (64 < a1) = true := decide_eq_true c5
    clear c5
    have H' := Aside0.mk H
    clear H
    go_wp2
    go_meet
    case rel => exact ⟨_, (true), (by first | rfl | (simp; done) | (simp [*]; done)), H', ⟨by first | omega | exact Nat.le_refl _⟩, ⟨by repeat (first | (with_reducible first | exact HB.out | apply below_alloc | apply pw_below_drewN | apply below_drew1) | exact HB.out)⟩⟩
   ·rw [if_neg c5] at H
    have c5b0 : decide (64 < a1) = false := decide_eq_false c5
    clear c5
    by_cases c6 : a1 < 8
    ·rw [if_pos c6] at H
     have c6b0 : decide (a1 < 8) = true := decide_eq_true c6
     clear c6
     obtain ⟨ji7, hji7⟩ : ∃ j_ : Int, (wrap64 (8 * a1)) = j_ := ⟨_, rfl⟩
     replace H : (if 0 ≤ (ji7) then (octet_Bytes.j0 k a0 a1 ((shr .u64 a0 (ji7)) != 0)) else (none)) = some (r1, r2) := by first | (rw [hji7] at H; exact H) | (simp only [hji7] at H ⊢; exact H)
     have hji7w : (IntKind.i64.wrap (8 * a1)) = ji7 := (i64_w _).trans hji7
     by_cases c8 : 0 ≤ (ji7)
     ·rw [if_pos c8] at H
      have c8b0 := eq_true c8
      have c8b1 : decide (0 ≤ (ji7)) = true := decide_eq_true c8
      clear c8
      obtain ⟨ji9, hji9⟩ : ∃ j_ : Int, (shr .u64 a0 (ji7)) = j_ := ⟨_, rfl⟩
      replace H : (octet_Bytes.j0 k a0 a1 ((ji9) != 0)) = some (r1, r2) := by first | (rw [hji9] at H; exact H) | (simp only [hji9] at H ⊢; exact H)
      have hji9_ : (a0 / 2 ^ min (ji7).toNat 64) = ji9 := hji9
      have hji9z : (ji7) ≤ 64 → (a0 / 2 ^ (ji7).toNat) = ji9 := shr_small hji9
      have H' := Aside0.mk H
      clear H
      go_wp2
      go_meet
      case rel => exact ⟨_, (((ji9) != 0)), (by first | rfl | (simp; done) | (simp only [← hji9] <;> (first | rfl | simp)) | (simp [*]; done)), H', ⟨by first | omega | exact Nat.le_refl _⟩, ⟨by repeat (first | (with_reducible first | exact HB.out | apply below_alloc | apply pw_below_drewN | apply below_drew1) | exact HB.out)⟩⟩
     ·rw [if_neg c8] at H
      exact absurd H (by simp)
    ·rw [if_neg c6] at H
     have c6b0 : decide (a1 < 8) = false := decide_eq_false c6
     clear c6
     have H' := Aside0.mk H
     clear H
     go_wp2
     go_meet
     case rel => exact ⟨_, (false), (by first | rfl | (simp; done) | (simp [*]; done)), H', ⟨by first | omega | exact Nat.le_refl _⟩, ⟨by repeat (first | (with_reducible first | exact HB.out | apply below_alloc | apply pw_below_drewN | apply below_drew1) | exact HB.out)⟩⟩
 case rest =>
  clear HC3
  try clear c1
  try clear p2
  try clear c4
  try clear c4b0
  try clear c5
  try clear c5b0
  try clear c6
  try clear c6b0
  try clear p6
  try clear c8
  try clear c8b0
  try clear c8b1
  obtain ⟨kq, x24_2, rfl, HA, HJ2, HB⟩ := hcut
  cases kq with
  | zero => exact absurd HA.out (by simp [octet_Bytes.j0])
  | succ kj2 =>
   have H := HA.out
   clear HA
   simp only [octet_Bytes.j0] at H
   by_cases c10 : x24_2 = true
   ·subst c10
    have H1 : (some (([] : List Int), false)) = some (r1, r2) := by rw [if_pos rfl] at H; exact H
    clear H
    have H := H1
    clear H1
    simp only [Option.some.injEq, Prod.mk.injEq] at H
    obtain ⟨rfl, rfl⟩ := H
    go_wp2
    go_ret2
    exact ⟨_, by first | rfl | (simp [errW_none, errW_some] <;> rfl) | (simp [*, errW_none, errW_some] <;> rfl), by first | exact Kd.R_nil _ _ _ _ _ | exact Kd.N_nil _ _ _ _ _ | exact Kd.V_nil _ _ _ _ _ | exact Kd.Q_nil _ _ _ _ _ | exact Kd.S_nil _ _ _ _ _, by repeat (first | (with_reducible first | exact HB.out | apply below_alloc | apply pw_below_drewN | apply below_drew1) | exact HB.out)⟩
   ·replace c10 := Bool.eq_false_iff.mpr c10
    subst c10
    have H1 : (if 0 ≤ a1 then (if (a1 : Int).toNat ≤ 281474976710656 then (octet_Bytes.l0 kj2 a0 a1 (List.replicate (a1 : Int).toNat 0) (mn a1 8) 0) else (none)) else (none)) = some (r1, r2) := by rw [if_neg (show ¬ (false = true) by decide)] at H; exact H
    clear H
    have H := H1
    clear H1
    by_cases c11 : 0 ≤ a1
    ·rw [if_pos c11] at H
     have c11b0 := eq_true c11
     have c11b1 : decide (0 ≤ a1) = true := decide_eq_true c11
     clear c11
     by_cases c12 : (a1 : Int).toNat ≤ 281474976710656
     ·rw [if_pos c12] at H
      have c12b0 := eq_true c12
      have c12b1 : decide ((a1 : Int).toNat ≤ 281474976710656) = true := decide_eq_true c12
      clear c12
      obtain ⟨y221, hy221⟩ : ∃ y_ : List Int, y_ = (List.replicate (a1 : Int).toNat 0) := ⟨_, rfl⟩
      replace H : (octet_Bytes.l0 kj2 a0 a1 y221 (mn a1 8) 0) = some (r1, r2) := by first | (rw [hy221]; with_reducible exact H) | (have H2_ := (Option.bind_some _ _).symm.trans H; rw [hy221]; with_reducible exact H2_) | (have H2_ := (Option.bind_some _ _).symm.trans H; with_reducible exact H2_) | with_reducible exact H | (rw [hy221]; exact H) | exact H
      have Ny221 := Aside0.mk hy221
      clear hy221
      obtain ⟨ji13, hji13⟩ : ∃ j_ : Int, (mn a1 8) = j_ := ⟨_, rfl⟩
      replace H : (octet_Bytes.l0 kj2 a0 a1 y221 ji13 0) = some (r1, r2) := by first | (rw [hji13] at H; exact H) | (simp only [hji13] at H ⊢; exact H)
      have hji13_ : (if 8 < a1 then 8 else a1) = ji13 := hji13
      have H' := Aside0.mk H
      clear H
      go_wp2_with (first | ((with_reducible refine gate_dst (N := 26) rfl ?_); refine Kd.R_make (Kd.int .u8) _ 5 rfl (N := 26) rfl 29 _ _ rfl a1 rfl rfl Tryz.underlying29 (.int .u8 0) 1 info5 rfl (by decide) (by omega) 0 (ok := fun _ => True) (okp := fun _ => True) rfl (fun _ hk => hk) trivial (of_decide_eq_true (by first | (with_reducible assumption) | assumption)) (Nat.le_trans (Nat.mul_le_mul_right _ (of_decide_eq_true (by first | (with_reducible assumption) | assumption) : a1.toNat ≤ 281474976710656)) (by omega)) (Below.refl _ _) (Nat.le_refl _) ?_; intro v222 w14 ho15 hb hg_ hnew_; clear hg_ hnew_; (first | rw [← Ny221.out] at ho15 | (simp only [Int.reduceToNat] at ho15; rw [← Ny221.out] at ho15)); have n0_ := Aside0.mk (Kd.R_lower ho15 (below_size (by repeat (first | (with_reducible first | exact HB.out | apply below_alloc | apply pw_below_drewN | apply below_drew1) | exact HB.out)))); have n1_ := Aside0.mk (below_step (by repeat (first | (with_reducible first | exact HB.out | apply below_alloc | apply pw_below_drewN | apply below_drew1) | exact HB.out)) hb); clear HB; have HO223 := n0_; have HB := n1_; clear n0_ n1_; clear hb ho15))
      go_loopg [29] kj2 (fun kq v29 w' => ∃ (x6_2 : List Int) (x29_2 : Int), v29 = .int .i64 x29_2 ∧ Aside0 (octet_Bytes.l0 kq a0 a1 x6_2 ji13 x29_2 = some (r1, r2)) ∧ Aside0 (kq ≤ kj2) ∧ Aside0 (Kd.R (Kd.int .u8) 5 w' w.heap.size (fun _ => True) v222 x6_2) ∧ Aside0 (Below w.heap.size w w'))
      case atStart => exact ⟨(y221), (0), (by first | rfl | (simp; done) | (simp [*]; done)), H', ⟨Nat.le_refl _⟩, ⟨by (with_reducible repeat (first | apply Kd.R_alloc | apply Kd.R_drewN | apply Kd.R_drew)); exact HO223.out⟩, ⟨by repeat (first | (with_reducible first | exact HB.out | apply below_alloc | apply pw_below_drewN | apply below_drew1) | exact HB.out)⟩⟩
      case round =>
       clear H'
       try clear c1
       try clear p2
       try clear c4
       try clear c4b0
       try clear c5
       try clear c5b0
       try clear c6
       try clear c6b0
       try clear p6
       try clear c8
       try clear c8b0
       try clear c8b1
       try clear c10
       try clear c11
       try clear c11b0
       try clear c11b1
       try clear c12
       try clear c12b0
       try clear c12b1
       try clear c15
       try clear p2
       try clear p6
       obtain ⟨x6_2, x29_2, rfl, HA, HK2, HO_6, HB⟩ := hrel
       cases gk with
       | zero => exact absurd HA.out (by simp [octet_Bytes.l0])
       | succ k2 =>
        have H := HA.out
        clear HA
        simp only [octet_Bytes.l0] at H
        by_cases c16 : x29_2 < ji13
        ·rw [if_pos c16] at H
         have c16b0 : decide (x29_2 < ji13) = true := decide_eq_true c16
         clear c16
         obtain ⟨ji17, hji17⟩ : ∃ j_ : Int, (wrap64 (8 * x29_2)) = j_ := ⟨_, rfl⟩
         replace H : (if 0 ≤ (ji17) then (if 0 ≤ (wrap64 ((wrap64 (a1 - 1)) - x29_2)) then (if (wrap64 ((wrap64 (a1 - 1)) - x29_2)) < (x6_2.length : Int) then (octet_Bytes.l0 k2 a0 a1 (x6_2.set ((wrap64 ((wrap64 (a1 - 1)) - x29_2)) : Int).toNat ((shr .u64 a0 (ji17)) % 256)) ji13 (wrap64 (x29_2 + 1))) else (none)) else (none)) else (none)) = some (r1, r2) := by first | (rw [hji17] at H; exact H) | (simp only [hji17] at H ⊢; exact H)
         have hji17w : (IntKind.i64.wrap (8 * x29_2)) = ji17 := (i64_w _).trans hji17
         by_cases c18 : 0 ≤ (ji17)
         ·rw [if_pos c18] at H
          have c18b0 := eq_true c18
          have c18b1 : decide (0 ≤ (ji17)) = true := decide_eq_true c18
          clear c18
          obtain ⟨ji19, hji19⟩ : ∃ j_ : Int, (shr .u64 a0 (ji17)) = j_ := ⟨_, rfl⟩
          replace H : (if 0 ≤ (wrap64 ((wrap64 (a1 - 1)) - x29_2)) then (if (wrap64 ((wrap64 (a1 - 1)) - x29_2)) < (x6_2.length : Int) then (octet_Bytes.l0 k2 a0 a1 (x6_2.set ((wrap64 ((wrap64 (a1 - 1)) - x29_2)) : Int).toNat ((ji19) % 256)) ji13 (wrap64 (x29_2 + 1))) else (none)) else (none)) = some (r1, r2) := by first | (rw [hji19] at H; exact H) | (simp only [hji19] at H ⊢; exact H)
          have hji19_ : (a0 / 2 ^ min (ji17).toNat 64) = ji19 := hji19
          have hji19z : (ji17) ≤ 64 → (a0 / 2 ^ (ji17).toNat) = ji19 := shr_small hji19
          obtain ⟨ji20, hji20⟩ : ∃ j_ : Int, (wrap64 ((wrap64 (a1 - 1)) - x29_2)) = j_ := ⟨_, rfl⟩
          replace H : (if 0 ≤ (ji20) then (if (ji20) < (x6_2.length : Int) then (octet_Bytes.l0 k2 a0 a1 (x6_2.set ((ji20) : Int).toNat ((ji19) % 256)) ji13 (wrap64 (x29_2 + 1))) else (none)) else (none)) = some (r1, r2) := by first | (rw [hji20] at H; exact H) | (simp only [hji20] at H ⊢; exact H)
          have hji20w : (IntKind.i64.wrap ((wrap64 (a1 - 1)) - x29_2)) = ji20 := (i64_w _).trans hji20
          by_cases c21 : 0 ≤ (ji20)
          ·rw [if_pos c21] at H
           have c21b0 : decide (0 ≤ (ji20)) = true := decide_eq_true c21
           clear c21
           by_cases c22 : (ji20) < (x6_2.length : Int)
           ·rw [if_pos c22] at H
            have c22b0 : decide ((ji20) < (x6_2.length : Int)) = true := decide_eq_true c22
            clear c22
            obtain ⟨y224, hy224⟩ : ∃ y_ : List Int, y_ = (x6_2.set ((ji20) : Int).toNat ((ji19) % 256)) := ⟨_, rfl⟩
            replace H : (octet_Bytes.l0 k2 a0 a1 y224 ji13 (wrap64 (x29_2 + 1))) = some (r1, r2) := by first | (rw [hy224]; with_reducible exact H) | (have H2_ := (Option.bind_some _ _).symm.trans H; rw [hy224]; with_reducible exact H2_) | (have H2_ := (Option.bind_some _ _).symm.trans H; with_reducible exact H2_) | with_reducible exact H | (rw [hy224]; exact H) | exact H
            have Ny224 := Aside0.mk hy224
            clear hy224
            have H' := Aside0.mk H
            clear H
            have p23 : 0 ≤ ((ji20) : Int) := of_decide_eq_true (by first | (with_reducible assumption) | assumption)
            have q23 : ((ji20) : Int) < ((x6_2.length : Int) : Int) := of_decide_eq_true (by first | (with_reducible assumption) | assumption)
            obtain ⟨go23, co23, eo23, gb23, gl23, cl23, HG23⟩ := Kd.R_form HO_6.out (by omega)
            (first | cases eo23 | (injection eo23 with ea_ en_ ec_; (first | subst ea_ | (injection ea_ with ea_; subst ea_)); subst ec_; clear en_))
            have GB23 := Aside0.mk gb23
            have GG23 := Aside0.mk HG23
            clear gb23 gl23 HG23
            obtain ⟨hx23_0, hf23_0⟩ := Kd.R_celln 0 HO_6.out ((ji20) : Int) p23 q23
            replace p23 := eq_true p23
            replace q23 := eq_true q23
            have HP24 := Kd.R_putg HO_6.out ((ji20) : Int) ((ji19) % 256)
            go_wp2_with (first | ((with_reducible refine gate_store (t := 5) (p := 42) rfl ?_); refine store_event (t := 5) (p := 42) (v := ?vo_w25) (w1 := (wr.setCell ⟨go23, ((ji20) : Int).toNat, none⟩ (.int .u8 ((ji19) % 256)))) ?hg ?ho ?hn ?hr ?_; (case ho => rfl); (case hg => rfl); (case hn => rfl); (case hr => first | (go_simp; done) | (go_simp; rfl)); intro w25 hw; have hg : wr.grownBy w25 (some go23) := (by rw [hw]; exact HP24.2); have hp_ : Kd.R (Kd.int .u8) 5 w25 w.heap.size (fun _ => True) (.slice (some ⟨go23, 0, none⟩) x6_2.length co23) y224 := (by rw [hw, Ny224.out]; exact HP24.1); clear HP24; have n0_ := Aside0.mk (hp_); have n1_ := Aside0.mk ((by rw [hw]; exact below_set (HB.out) GB23.out : Below w.heap.size w w25)); clear HO_6; clear HB; have HO_6 := n0_; have HB := n1_; clear n0_ n1_; clear hg hw hp_))
            go_roundg k2
            case measure => have := HJ2.out; have := HK2.out; omega
            case rel => exact ⟨(y224), (wrap64 (x29_2 + 1)), (by first | rfl | (simp; done) | (simp [*]; done)), H', ⟨by have := HJ2.out; have := HK2.out; omega⟩, ⟨by (with_reducible repeat (first | apply Kd.R_alloc | apply Kd.R_drewN | apply Kd.R_drew)); exact HO_6.out⟩, ⟨by repeat (first | (with_reducible first | exact HB.out | apply below_alloc | apply pw_below_drewN | apply below_drew1) | exact HB.out)⟩⟩
           ·rw [if_neg c22] at H
            exact absurd H (by simp)
          ·rw [if_neg c21] at H
           exact absurd H (by simp)
         ·rw [if_neg c18] at H
          exact absurd H (by simp)
        ·rw [if_neg c16] at H
         have c16b0 : decide (x29_2 < ji13) = false := decide_eq_false c16
         clear c16
         simp only [Option.some.injEq, Prod.mk.injEq] at H
         obtain ⟨rfl, rfl⟩ := H
         go_wp2
         go_ret2
         exact ⟨_, by first | rfl | (simp [errW_none, errW_some] <;> rfl) | (simp only [← hji13]; first | rfl | (simp [errW_none, errW_some] <;> rfl)) | (simp [*, errW_none, errW_some] <;> rfl), by (with_reducible repeat (first | apply Kd.R_alloc | apply Kd.R_drewN | apply Kd.R_drew)); exact HO_6.out, by repeat (first | (with_reducible first | exact HB.out | apply below_alloc | apply pw_below_drewN | apply below_drew1) | exact HB.out)⟩
     ·rw [if_neg c12] at H
      exact absurd H (by simp)
    ·rw [if_neg c11] at H
     exact absurd H (by simp)

end Go.Proofs.YtcbmjmphicfgpaaGreatDoor.PT
end

section
namespace Go.Proofs.YtcbmjmphicfgpaaGreatDoor.PT
open Go.RowKit Go.Proofs.YtcbmjmphicfgpaaGreatDoorW.PrintWords Go.Proofs.YtcbmjmphicfgpaaGreatDoorW.PrintLast Go.Proofs.YtcbmjmphicfgpaaGreatDoorW.PrintMore
attribute [local go_sem] max2_int min2_int max_two min_two max_three min_three max_four min_four   -- for this text's walks alone
set_option linter.unusedVariables false
set_option linter.unusedSimpArgs false

def octet_Least.l0 : Nat → Int → Int → Option (List Int)
 | 0, _, _ => none
 | k + 1, x0, x3 => if x3 < 8 then (if 0 ≤ (wrap64 (8 * x3)) then (if (shr .u64 x0 (wrap64 (8 * x3))) = 0 then ((octet_Bytes.f k x0 x3).bind fun bt225 => (some bt225.1)) else (octet_Least.l0 k x0 (wrap64 (x3 + 1)))) else (none)) else ((octet_Bytes.f k x0 x3).bind fun bt229 => (some bt229.1))
def octet_Least.f (k : Nat) (a0 : Int) : Option (List Int) := octet_Least.l0 k a0 1
set_option maxHeartbeats 8000000 in
set_option maxRecDepth 100000 in
theorem octet_Least.calls (k : Nat) (a0 : Int) (r : List Int) (w : World) (h : octet_Least.f k a0 = some r) :
 Calls Tryz.prog 137 #[.int .u64 a0] w fun e w' => ∃ v0_ : Value, e = .returned (v0_) ∧ Kd.R (Kd.int .u8) 5 w' w.heap.size (fun _ => True) v0_ r ∧ Below w.heap.size w w' := by
 have HB := Aside0.mk (Below.refl w.heap.size w)
 have H : (octet_Least.l0 k a0 1) = some r := h
 clear h
 have H' := Aside0.mk H
 clear H
 go_enter Tryz.func137, Tryz.ntmps137
 go_wp2
 go_loopg [3] k (fun kq v3 w' => ∃ (x3_1 : Int), v3 = .int .i64 x3_1 ∧ Aside0 (octet_Least.l0 kq a0 x3_1 = some r) ∧ Aside0 (kq ≤ k) ∧ Aside0 (Below w.heap.size w w'))
 case atStart => exact ⟨(1), (by first | rfl | (simp; done) | (simp [*]; done)), H', ⟨Nat.le_refl _⟩, ⟨by repeat (first | (with_reducible first | exact HB.out | apply below_alloc | apply pw_below_drewN | apply below_drew1) | exact HB.out)⟩⟩
 case round =>
  clear H'
  try clear c1
  obtain ⟨x3_1, rfl, HA, HK1, HB⟩ := hrel
  cases gk with
  | zero => exact absurd HA.out (by simp [octet_Least.l0])
  | succ k1 =>
   have H := HA.out
   clear HA
   simp only [octet_Least.l0] at H
   by_cases c2 : x3_1 < 8
   ·rw [if_pos c2] at H
    have c2b0 : decide (x3_1 < 8) = true := decide_eq_true c2
    clear c2
    obtain ⟨ji3, hji3⟩ : ∃ j_ : Int, (wrap64 (8 * x3_1)) = j_ := ⟨_, rfl⟩
    replace H : (if 0 ≤ (ji3) then (if (shr .u64 a0 (ji3)) = 0 then ((octet_Bytes.f k1 a0 x3_1).bind fun bt225 => (some bt225.1)) else (octet_Least.l0 k1 a0 (wrap64 (x3_1 + 1)))) else (none)) = some r := by first | (rw [hji3] at H; exact H) | (simp only [hji3] at H ⊢; exact H)
    have hji3w : (IntKind.i64.wrap (8 * x3_1)) = ji3 := (i64_w _).trans hji3
    by_cases c4 : 0 ≤ (ji3)
    ·rw [if_pos c4] at H
     have c4b0 := eq_true c4
     have c4b1 : decide (0 ≤ (ji3)) = true := decide_eq_true c4
     clear c4
     obtain ⟨ji5, hji5⟩ : ∃ j_ : Int, (shr .u64 a0 (ji3)) = j_ := ⟨_, rfl⟩
     replace H : (if (ji5) = 0 then ((octet_Bytes.f k1 a0 x3_1).bind fun bt225 => (some bt225.1)) else (octet_Least.l0 k1 a0 (wrap64 (x3_1 + 1)))) = some r := by first | (rw [hji5] at H; exact H) | (simp only [hji5] at H ⊢; exact H)
     have hji5_ : (a0 / 2 ^ min (ji3).toNat 64) = ji5 := hji5
     have hji5z : (ji3) ≤ 64 → (a0 / 2 ^ (ji3).toNat) = ji5 := shr_small hji5
     by_cases c6 : (ji5) = 0
     ·rw [if_pos c6] at H
      have c6b0 : ((ji5) == 0) = true := beq_iff_eq.mpr c6
      have c6b1 : ((ji5) != 0) = false := bne_eq_false_iff_eq.mpr c6
      clear c6
      replace H := Option.bind_eq_some_iff.mp H
      obtain ⟨⟨t225, t226⟩, A70, H⟩ := H
      replace H : (some t225) = some r := H
      have A7 := Aside0.mk A70
      clear A70
      obtain rfl := Option.some.inj H
      go_wp2_with (first | ((with_reducible refine gate_callee (f := 152) rfl ?_); refine goesL_ (some 20) rfl rfl Tryz.func152 (by kernel_rfl) rfl #[.int .u64 a0, .int .i64 x3_1] rfl (by (try simp only [List.map_toArray, List.map_cons, List.map_nil]); first | done | rfl | (simp only [List.length_drop, List.length_take]; rfl)) ?_; (with_reducible refine (octet_Bytes.calls k1 a0 x3_1 t225 t226 _ A7.out).mono ?_); rintro e w8 ⟨v227, rfl, ho0, hb⟩; refine ⟨_, rfl, ?_⟩; have n0_ := Aside0.mk (Kd.R_lower ho0 (below_size (by repeat (first | (with_reducible first | exact HB.out | apply below_alloc | apply pw_below_drewN | apply below_drew1) | exact HB.out)))); have n1_ := Aside0.mk (below_step (by repeat (first | (with_reducible first | exact HB.out | apply below_alloc | apply pw_below_drewN | apply below_drew1) | exact HB.out)) hb); clear HB; have HO228 := n0_; have HB := n1_; clear n0_ n1_; (try clear hb); (try clear hb2); (try clear hk); (try clear hi); (try clear ho0)))
      go_ret
      exact ⟨_, by first | rfl | (simp [errW_none, errW_some] <;> rfl) | (simp only [← hji3, ← hji5]; first | rfl | (simp [errW_none, errW_some] <;> rfl)) | (simp [*, errW_none, errW_some] <;> rfl), by (with_reducible repeat (first | apply Kd.R_alloc | apply Kd.R_drewN | apply Kd.R_drew)); exact HO228.out, by repeat (first | (with_reducible first | exact HB.out | apply below_alloc | apply pw_below_drewN | apply below_drew1) | exact HB.out)⟩
     ·rw [if_neg c6] at H
      have c6b0 : ((ji5) == 0) = false := beq_eq_false_iff_ne.mpr c6
      have c6b1 : ((ji5) != 0) = true := bne_iff_ne.mpr c6
      have H' := Aside0.mk H
      clear H
      go_wp2
      go_roundg k1
      case measure => have := HK1.out; omega
      case rel => exact ⟨(wrap64 (x3_1 + 1)), (by first | rfl | (simp; done) | (simp [*]; done)), H', ⟨by have := HK1.out; omega⟩, ⟨by repeat (first | (with_reducible first | exact HB.out | apply below_alloc | apply pw_below_drewN | apply below_drew1) | exact HB.out)⟩⟩
    ·rw [if_neg c4] at H
     exact absurd H (by simp)
   ·rw [if_neg c2] at H
    have c2b0 : decide (x3_1 < 8) = false := decide_eq_false c2
    clear c2
    replace H := Option.bind_eq_some_iff.mp H
    obtain ⟨⟨t229, t230⟩, A90, H⟩ := H
    replace H : (some t229) = some r := H
    have A9 := Aside0.mk A90
    clear A90
    obtain rfl := Option.some.inj H
    go_wp2_with (first | ((with_reducible refine gate_callee (f := 152) rfl ?_); refine goesL_ (some 20) rfl rfl Tryz.func152 (by kernel_rfl) rfl #[.int .u64 a0, .int .i64 x3_1] rfl (by (try simp only [List.map_toArray, List.map_cons, List.map_nil]); first | done | rfl | (simp only [List.length_drop, List.length_take]; rfl)) ?_; (with_reducible refine (octet_Bytes.calls k1 a0 x3_1 t229 t230 _ A9.out).mono ?_); rintro e w10 ⟨v231, rfl, ho0, hb⟩; refine ⟨_, rfl, ?_⟩; have n0_ := Aside0.mk (Kd.R_lower ho0 (below_size (by repeat (first | (with_reducible first | exact HB.out | apply below_alloc | apply pw_below_drewN | apply below_drew1) | exact HB.out)))); have n1_ := Aside0.mk (below_step (by repeat (first | (with_reducible first | exact HB.out | apply below_alloc | apply pw_below_drewN | apply below_drew1) | exact HB.out)) hb); clear HB; have HO232 := n0_; have HB := n1_; clear n0_ n1_; (try clear hb); (try clear hb2); (try clear hk); (try clear hi); (try clear ho0)))
    go_ret
    exact ⟨_, by first | rfl | (simp [errW_none, errW_some] <;> rfl) | (simp [*, errW_none, errW_some] <;> rfl), by (with_reducible repeat (first | apply Kd.R_alloc | apply Kd.R_drewN | apply Kd.R_drew)); exact HO232.out, by repeat (first | (with_reducible first | exact HB.out | apply below_alloc | apply pw_below_drewN | apply below_drew1) | exact HB.out)⟩

end Go.Proofs.YtcbmjmphicfgpaaGreatDoor.PT
end

section
namespace Go.Proofs.YtcbmjmphicfgpaaGreatDoor.PT
open Go.RowKit Go.Proofs.YtcbmjmphicfgpaaGreatDoorW.PrintWords Go.Proofs.YtcbmjmphicfgpaaGreatDoorW.PrintLast Go.Proofs.YtcbmjmphicfgpaaGreatDoorW.PrintMore
attribute [local go_sem] max2_int min2_int max_two min_two max_three min_three max_four min_four   -- for this text's walks alone
set_option linter.unusedVariables false
set_option linter.unusedSimpArgs false

def scalar_Int.f (k : Nat) (a0 : Int) : Option (Int × List Int × (List (S51))) := (octet_Least.f k a0).bind fun t234 => ((scalar_Big.f t234).bind fun bt237 => (some (bt237.1, bt237.2.1, bt237.2.2)))
set_option maxHeartbeats 8000000 in
set_option maxRecDepth 100000 in
theorem scalar_Int.calls (k : Nat) (a0 : Int) (r1 : Int) (r2 : List Int) (r3 : List (S51)) (w : World) (h : scalar_Int.f k a0 = some (r1, r2, r3)) :
 Calls Tryz.prog 104 #[.int .u64 a0] w fun e w' => ∃ v1_ v2_ : Value, e = .returned (.agg #[.int .i64 r1, v1_, v2_]) ∧ Kd.R (Kd.int .u8) 5 w' w.heap.size (fun _ => True) v1_ r2 ∧ Kd.R k51 51 w' w.heap.size (fun k_ => some k_ ≠ (v1_ : Value).ownBlock) v2_ r3 ∧ Below w.heap.size w w' := by
 have hu51 := Tryz.underlying51
 have HB := Aside0.mk (Below.refl w.heap.size w)
 have H : ((octet_Least.f k a0).bind fun t234 => ((scalar_Big.f t234).bind fun bt237 => (some (bt237.1, bt237.2.1, bt237.2.2)))) = some (r1, r2, r3) := h
 clear h
 replace H := Option.bind_eq_some_iff.mp H
 obtain ⟨t234, A20, H⟩ := H
 replace H : ((scalar_Big.f t234).bind fun bt237 => (some (bt237.1, bt237.2.1, bt237.2.2))) = some (r1, r2, r3) := H
 have A2 := Aside0.mk A20
 clear A20
 replace H := Option.bind_eq_some_iff.mp H
 obtain ⟨⟨t237, t238, t241⟩, A30, H⟩ := H
 replace H : (some (t237, t238, t241)) = some (r1, r2, r3) := H
 have A3 := Aside0.mk A30
 clear A30
 simp only [Option.some.injEq, Prod.mk.injEq] at H
 obtain ⟨rfl, rfl, rfl⟩ := H
 go_enter Tryz.func104, Tryz.ntmps104
 go_wp2_with (first | ((with_reducible refine gate_dst (N := 2) rfl ?_); refine box_event ?hg (N := 2) ?hd (cs := #[.int .i64 0, .slice none 0 0, .slice none 0 0]) (t := 51) ?hr ?_; (case hd => rfl); (case hg => rfl); (case hr => first | (go_simp; done) | (go_simp; rfl)); intro gb233 hg w4 hbox hb; have n0_ := Aside0.mk (below_step (by repeat (first | (with_reducible first | exact HB.out | apply below_alloc | apply pw_below_drewN | apply below_drew1) | exact HB.out)) hb); have n1_ := Aside0.mk (hbox); have n2_ := Aside0.mk ((by rw [hg]; exact (below_size (by repeat (first | (with_reducible first | exact HB.out | apply below_alloc | apply pw_below_drewN | apply below_drew1) | exact HB.out))) : w.heap.size ≤ gb233)); have n3_ := Aside0.mk ((by rw [hg]; exact (below_size (by repeat (first | (with_reducible first | exact HB.out | apply below_alloc | apply pw_below_drewN | apply below_drew1) | exact HB.out))) : w.heap.size ≤ gb233)); clear HB; have HB := n0_; have BK233 := n1_; have GW233 := n2_; have GE233 := n3_; clear n0_ n1_ n2_ n3_; clear hb hbox hg) | ((with_reducible refine gate_callee (f := 137) rfl ?_); refine goesL_ (some 4) rfl rfl Tryz.func137 (by kernel_rfl) rfl #[.int .u64 a0] rfl (by (try simp only [List.map_toArray, List.map_cons, List.map_nil]); first | done | rfl | (simp only [List.length_drop, List.length_take]; rfl)) ?_; (with_reducible refine (octet_Least.calls k a0 t234 _ A2.out).mono ?_); rintro e w5 ⟨v235, rfl, ho0, hb⟩; refine ⟨_, rfl, ?_⟩; have n0_ := Aside0.mk (Kd.R_lower ho0 (below_size (by repeat (first | (with_reducible first | exact HB.out | apply below_alloc | apply pw_below_drewN | apply below_drew1 | refine below_set ?_ GE233.out) | exact HB.out)))); have n1_ := Aside0.mk (blk_below (g := gb233) (o := .cells #[.int .i64 0, .slice none 0 0, .slice none 0 0] 51 (0, 0)) (by (with_reducible repeat (first | refine blk_drewN ?_ _ | refine blk_drew ?_ | refine blk_alloc ?_ _)); exact BK233.out) hb); have n2_ := Aside0.mk (below_step (by repeat (first | (with_reducible first | exact HB.out | apply below_alloc | apply pw_below_drewN | apply below_drew1 | refine below_set ?_ GE233.out) | exact HB.out)) hb); clear BK233; clear HB; have HO236 := n0_; have BK233 := n1_; have HB := n2_; clear n0_ n1_ n2_; (try clear hb); (try clear hb2); (try clear hk); (try clear hi); (try clear ho0); obtain ⟨Ao6, co6, eo6⟩ := Kd.R_slice HO236.out; subst eo6) | ((with_reducible refine gate_callee (f := 103) rfl ?_); refine goesL_ (some 5) rfl rfl Tryz.func103 (by kernel_rfl) rfl #[.slice Ao6 t234.length co6] rfl (by (try simp only [List.map_toArray, List.map_cons, List.map_nil]); first | done | rfl | (simp only [List.length_drop, List.length_take]; rfl)) ?_; (with_reducible refine (scalar_Big.calls _ _ t234 t237 t238 t241 _ ?side1 ?side2 A3.out).mono ?_); (case side1 => repeat (first | exact (Kd.R_reads' HO236.out).2.2 | (with_reducible refine Kd.C_alloc ?_ _) | (with_reducible refine Kd.C_drewN ?_ _) | (with_reducible refine Kd.C_drew ?_))); (case side2 => exact (Kd.R_reads' HO236.out).2.1); rintro e w7 ⟨v239, v242, rfl, ho0, ho1, hb⟩; refine ⟨_, rfl, ?_⟩; have n0_ := Aside0.mk (Kd.R_elder' (by (with_reducible repeat (first | apply Kd.R_alloc | apply Kd.R_drewN | apply Kd.R_drew)); exact HO236.out) (Kd.R_base ho0) hb); have n1_ := Aside0.mk (Kd.R_lower (Kd.R_new' ho0 (Kd.R_lt (by (with_reducible repeat (first | apply Kd.R_alloc | apply Kd.R_drewN | apply Kd.R_drew)); exact HO236.out))) (below_size (by repeat (first | (with_reducible first | exact HB.out | apply below_alloc | apply pw_below_drewN | apply below_drew1 | refine below_set ?_ GE233.out) | exact HB.out)))); have n2_ := Aside0.mk (Kd.R_lower (Kd.R_newB (Kd.R_new' ho1 (Kd.R_lt (by (with_reducible repeat (first | apply Kd.R_alloc | apply Kd.R_drewN | apply Kd.R_drew)); exact HO236.out))) (g := gb233) (o := .cells #[.int .i64 0, .slice none 0 0, .slice none 0 0] 51 (0, 0)) (by (with_reducible repeat (first | refine blk_drewN ?_ _ | refine blk_drew ?_ | refine blk_alloc ?_ _)); exact BK233.out)) (below_size (by repeat (first | (with_reducible first | exact HB.out | apply below_alloc | apply pw_below_drewN | apply below_drew1 | refine below_set ?_ GE233.out) | exact HB.out)))); have n3_ := Aside0.mk (blk_below (g := gb233) (o := .cells #[.int .i64 0, .slice none 0 0, .slice none 0 0] 51 (0, 0)) (by (with_reducible repeat (first | refine blk_drewN ?_ _ | refine blk_drew ?_ | refine blk_alloc ?_ _)); exact BK233.out) hb); have n4_ := Aside0.mk (below_step (by repeat (first | (with_reducible first | exact HB.out | apply below_alloc | apply pw_below_drewN | apply below_drew1 | refine below_set ?_ GE233.out) | exact HB.out)) hb); clear HO236; clear BK233; clear HB; have HO236 := n0_; have HO240 := n1_; have HO243 := n2_; have BK233 := n3_; have HB := n4_; clear n0_ n1_ n2_ n3_ n4_; (try clear hb); (try clear hb2); (try clear hk); (try clear hi); (try clear ho0); (try clear ho1); have hcz8_0 : w7.cell? ⟨gb233, 0, none⟩ = some (.int .i64 0) := (blk_cell BK233.out 0).trans rfl; have hcz8_1 : w7.cell? ⟨gb233, 1, none⟩ = some (.slice none 0 0) := (blk_cell BK233.out 1).trans rfl; have hcz8_2 : w7.cell? ⟨gb233, 2, none⟩ = some (.slice none 0 0) := (blk_cell BK233.out 2).trans rfl; have hfz8_0 := blk_frozen BK233.out 0; have hfz8_1 := blk_frozen BK233.out 1; have hfz8_2 := blk_frozen BK233.out 2; obtain ⟨Ao9, co9, eo9⟩ := Kd.R_slice HO240.out; subst eo9; obtain ⟨Ao10, co10, eo10⟩ := Kd.R_slice HO243.out; subst eo10))
 refine bodyPost_ret (results_cell_row rfl _ _ gb233 51 #[.int .i64 t237, .slice Ao9 t238.length co9, .slice Ao10 t241.length co10] (0, 0) _ rfl (by (with_reducible repeat (first | refine blk_drewN ?_ _ | refine blk_drew ?_ | refine blk_alloc ?_ _)); refine blk_put (cs := #[.int .i64 t237, .slice Ao9 t238.length co9, .slice none 0 0]) ?_ 2 _ rfl; (with_reducible repeat (first | refine blk_drewN ?_ _ | refine blk_drew ?_ | refine blk_alloc ?_ _)); refine blk_put (cs := #[.int .i64 t237, .slice none 0 0, .slice none 0 0]) ?_ 1 _ rfl; (with_reducible repeat (first | refine blk_drewN ?_ _ | refine blk_drew ?_ | refine blk_alloc ?_ _)); refine blk_put (cs := #[.int .i64 0, .slice none 0 0, .slice none 0 0]) ?_ 0 _ rfl; (with_reducible repeat (first | refine blk_drewN ?_ _ | refine blk_drew ?_ | refine blk_alloc ?_ _)); exact BK233.out) Tryz.underlying51 rfl (by kernel_rfl)) rfl ?_
 exact ⟨_, _, by first | rfl | (simp [errW_none, errW_some] <;> rfl) | (simp [*, errW_none, errW_some] <;> rfl), by (with_reducible repeat (first | apply Kd.R_alloc | apply Kd.R_drewN | apply Kd.R_drew)); exact Kd.R_mono (Kd.R_far (p := ⟨gb233, 2, none⟩) (Kd.R_far (p := ⟨gb233, 1, none⟩) (Kd.R_far (p := ⟨gb233, 0, none⟩) (Kd.R_types HO240.out BK233.out (by decide)) (fun _ hk => hk.2) (.int .i64 t237)) (fun _ hk => hk.2) (.slice Ao9 t238.length co9)) (fun _ hk => hk.2) (.slice Ao10 t241.length co10)) (fun _ hk => trivial), by (with_reducible repeat (first | apply Kd.R_alloc | apply Kd.R_drewN | apply Kd.R_drew)); exact Kd.R_mono (Kd.R_far (p := ⟨gb233, 2, none⟩) (Kd.R_far (p := ⟨gb233, 1, none⟩) (Kd.R_far (p := ⟨gb233, 0, none⟩) (Kd.R_mono HO243.out (fun k_ hk => (⟨hk, hk.2⟩ : _ ∧ k_ ≠ gb233))) (fun _ hk => hk.2) (.int .i64 t237)) (fun _ hk => hk.2) (.slice Ao9 t238.length co9)) (fun _ hk => hk.2) (.slice Ao10 t241.length co10)) (fun _ hk => hk.1.1.1), by repeat (first | (with_reducible first | exact HB.out | apply below_alloc | apply pw_below_drewN | apply below_drew1 | refine below_set ?_ GE233.out) | exact HB.out)⟩

end Go.Proofs.YtcbmjmphicfgpaaGreatDoor.PT
end

section
set_option linter.unusedVariables false
set_option linter.unusedSimpArgs false
namespace Go.Proofs.YtcbmjmphicfgpaaGreatDoor.Tlv
open Go.RowKit Go.Proofs.YtcbmjmphicfgpaaGreatDoorW.PrintWords Go.Proofs.YtcbmjmphicfgpaaGreatDoorW.PrintLast Go.Proofs.YtcbmjmphicfgpaaGreatDoorW.PrintMore Go.Proofs.YtcbmjmphicfgpaaGreatDoor.PT

def bE : Nat → Int → List Int
 | 0, _ => []
 | m + 1, n => bE m (n / 256) ++ [n % 256]
/-- A number's bytes, as few as there must be. -/
def leastP (n : Int) : List Int := if n / 256 = 0 then bE 1 n else if n / 65536 = 0 then bE 2 n else if n / 16777216 = 0 then bE 3 n else if n / 4294967296 = 0 then bE 4 n else if n / 1099511627776 = 0 then bE 5 n else if n / 281474976710656 = 0 then bE 6 n else if n / 72057594037927936 = 0 then bE 7 n else bE 8 n
theorem shr_n (n : Int) (k : Nat) (hk : k ≤ 64) : shr .u64 n (k : Int) = n / 2 ^ k := by
 unfold shr
 rw [Int.toNat_natCast, Nat.min_eq_left (by show k ≤ 64; exact hk)]
theorem sh0 (n : Int) : shr .u64 n 0 = n := by have := shr_n n 0 (by decide); simpa using this
theorem sh8 (n : Int) : shr .u64 n 8 = n / 256 := shr_n n 8 (by decide)
theorem sh16 (n : Int) : shr .u64 n 16 = n / 65536 := shr_n n 16 (by decide)
theorem sh24 (n : Int) : shr .u64 n 24 = n / 16777216 := shr_n n 24 (by decide)
theorem sh32 (n : Int) : shr .u64 n 32 = n / 4294967296 := shr_n n 32 (by decide)
theorem sh40 (n : Int) : shr .u64 n 40 = n / 1099511627776 := shr_n n 40 (by decide)
theorem sh48 (n : Int) : shr .u64 n 48 = n / 281474976710656 := shr_n n 48 (by decide)
theorem sh56 (n : Int) : shr .u64 n 56 = n / 72057594037927936 := shr_n n 56 (by decide)
theorem by1 (n : Int) : octet_Bytes.f 12 n 1 = if ((shr .u64 n 8) != 0) = true then some ([], false) else some ([shr .u64 n 0 % 256], true) := by kernel_rfl
theorem by2 (n : Int) : octet_Bytes.f 12 n 2 = if ((shr .u64 n 16) != 0) = true then some ([], false) else some ([shr .u64 n 8 % 256, shr .u64 n 0 % 256], true) := by kernel_rfl
theorem by3 (n : Int) : octet_Bytes.f 12 n 3 = if ((shr .u64 n 24) != 0) = true then some ([], false) else some ([shr .u64 n 16 % 256, shr .u64 n 8 % 256, shr .u64 n 0 % 256], true) := by kernel_rfl
theorem by4 (n : Int) : octet_Bytes.f 12 n 4 = if ((shr .u64 n 32) != 0) = true then some ([], false) else some ([shr .u64 n 24 % 256, shr .u64 n 16 % 256, shr .u64 n 8 % 256, shr .u64 n 0 % 256], true) := by kernel_rfl
theorem by5 (n : Int) : octet_Bytes.f 12 n 5 = if ((shr .u64 n 40) != 0) = true then some ([], false) else some ([shr .u64 n 32 % 256, shr .u64 n 24 % 256, shr .u64 n 16 % 256, shr .u64 n 8 % 256, shr .u64 n 0 % 256], true) := by kernel_rfl
theorem by6 (n : Int) : octet_Bytes.f 12 n 6 = if ((shr .u64 n 48) != 0) = true then some ([], false) else some ([shr .u64 n 40 % 256, shr .u64 n 32 % 256, shr .u64 n 24 % 256, shr .u64 n 16 % 256, shr .u64 n 8 % 256, shr .u64 n 0 % 256], true) := by kernel_rfl
theorem by7 (n : Int) : octet_Bytes.f 12 n 7 = if ((shr .u64 n 56) != 0) = true then some ([], false) else some ([shr .u64 n 48 % 256, shr .u64 n 40 % 256, shr .u64 n 32 % 256, shr .u64 n 24 % 256, shr .u64 n 16 % 256, shr .u64 n 8 % 256, shr .u64 n 0 % 256], true) := by kernel_rfl
theorem by8 (n : Int) : octet_Bytes.f 12 n 8 = some ([shr .u64 n 56 % 256, shr .u64 n 48 % 256, shr .u64 n 40 % 256, shr .u64 n 32 % 256, shr .u64 n 24 % 256, shr .u64 n 16 % 256, shr .u64 n 8 % 256, shr .u64 n 0 % 256], true) := by kernel_rfl
theorem byt_up {n m : Int} {r : List Int × Bool} (h : octet_Bytes.f 12 n m = some r) : ∀ j, octet_Bytes.f (12 + j) n m = some r
 | 0 => h
 | j + 1 => octet_Bytes.mono n m (12 + j) r (byt_up h j)
theorem byl {n m : Int} {r : List Int × Bool} (h : octet_Bytes.f 12 n m = some r) (j : Nat) : ((octet_Bytes.f (12 + j) n m).bind fun b => (some b.1)) = some r.1 := by rw [byt_up h j]; rfl
theorem least_f (n : Int) (h0 : 0 ≤ n) : octet_Least.f 20 n = some (leastP n) := by
 unfold leastP
 have e1 : octet_Least.f 20 n = octet_Least.l0 (18 + 1 + 1) n 1 := rfl
 rw [e1, octet_Least.l0, if_pos (by decide), show wrap64 (8 * 1) = 8 by decide +kernel, if_pos (by decide), sh8]
 by_cases c1 : n / 256 = 0
 ·rw [if_pos c1, if_pos c1, byl (j := 7) (by rw [by1, sh8, c1]; rfl)]
  rw [sh0]; rfl
 rw [if_neg c1, if_neg c1, show wrap64 (1 + 1) = 2 by decide +kernel, octet_Least.l0, if_pos (by decide), show wrap64 (8 * 2) = 16 by decide +kernel, if_pos (by decide), sh16]
 by_cases c2 : n / 65536 = 0
 ·rw [if_pos c2, if_pos c2, byl (j := 6) (by rw [by2, sh16, c2]; rfl)]
  rw [sh8, sh0]; rfl
 rw [if_neg c2, if_neg c2, show wrap64 (2 + 1) = 3 by decide +kernel, octet_Least.l0, if_pos (by decide), show wrap64 (8 * 3) = 24 by decide +kernel, if_pos (by decide), sh24]
 by_cases c3 : n / 16777216 = 0
 ·rw [if_pos c3, if_pos c3, byl (j := 5) (by rw [by3, sh24, c3]; rfl)]
  rw [sh16, sh8, sh0]
  simp only [bE, List.nil_append, List.cons_append, Option.some.injEq, List.cons.injEq, and_true]
  omega
 rw [if_neg c3, if_neg c3, show wrap64 (3 + 1) = 4 by decide +kernel, octet_Least.l0, if_pos (by decide), show wrap64 (8 * 4) = 32 by decide +kernel, if_pos (by decide), sh32]
 by_cases c4 : n / 4294967296 = 0
 ·rw [if_pos c4, if_pos c4, byl (j := 4) (by rw [by4, sh32, c4]; rfl)]
  rw [sh24, sh16, sh8, sh0]
  simp only [bE, List.nil_append, List.cons_append, Option.some.injEq, List.cons.injEq, and_true]
  omega
 rw [if_neg c4, if_neg c4, show wrap64 (4 + 1) = 5 by decide +kernel, octet_Least.l0, if_pos (by decide), show wrap64 (8 * 5) = 40 by decide +kernel, if_pos (by decide), sh40]
 by_cases c5 : n / 1099511627776 = 0
 ·rw [if_pos c5, if_pos c5, byl (j := 3) (by rw [by5, sh40, c5]; rfl)]
  rw [sh32, sh24, sh16, sh8, sh0]
  simp only [bE, List.nil_append, List.cons_append, Option.some.injEq, List.cons.injEq, and_true]
  omega
 rw [if_neg c5, if_neg c5, show wrap64 (5 + 1) = 6 by decide +kernel, octet_Least.l0, if_pos (by decide), show wrap64 (8 * 6) = 48 by decide +kernel, if_pos (by decide), sh48]
 by_cases c6 : n / 281474976710656 = 0
 ·rw [if_pos c6, if_pos c6, byl (j := 2) (by rw [by6, sh48, c6]; rfl)]
  rw [sh40, sh32, sh24, sh16, sh8, sh0]
  simp only [bE, List.nil_append, List.cons_append, Option.some.injEq, List.cons.injEq, and_true]
  omega
 rw [if_neg c6, if_neg c6, show wrap64 (6 + 1) = 7 by decide +kernel, octet_Least.l0, if_pos (by decide), show wrap64 (8 * 7) = 56 by decide +kernel, if_pos (by decide), sh56]
 by_cases c7 : n / 72057594037927936 = 0
 ·rw [if_pos c7, if_pos c7, byl (j := 1) (by rw [by7, sh56, c7]; rfl)]
  rw [sh48, sh40, sh32, sh24, sh16, sh8, sh0]
  simp only [bE, List.nil_append, List.cons_append, Option.some.injEq, List.cons.injEq, and_true]
  omega
 rw [if_neg c7, if_neg c7, show wrap64 (7 + 1) = 8 by decide +kernel, octet_Least.l0, if_neg (by decide), byl (j := 0) (by8 n)]
 rw [sh56, sh48, sh40, sh32, sh24, sh16, sh8, sh0]
 simp only [bE, List.nil_append, List.cons_append, Option.some.injEq, List.cons.injEq, and_true]
 omega
theorem bE_byte : ∀ (m : Nat) (n : Int), (∀ v ∈ bE m n, 0 ≤ v ∧ v < 256) ∧ (bE m n).length = m
 | 0, n => ⟨(fun v hv => by cases hv), rfl⟩
 | m + 1, n => by
  have h := bE_byte m (n / 256)
  refine ⟨fun v hv => ?_, by rw [bE, List.length_append, h.2]; rfl⟩
  rw [bE] at hv
  rcases List.mem_append.1 hv with hv | hv
  ·exact h.1 v hv
  ·simp at hv; omega
/-- The number of bytes. -/
def numF (l : List Int) : Int := l.foldl (fun a c => a * 256 + c) 0
theorem numF_snoc (l : List Int) (x : Int) : numF (l ++ [x]) = numF l * 256 + x := by unfold numF; rw [List.foldl_append]; rfl
theorem numF_bE : ∀ (m : Nat) (n : Int), 0 ≤ n → n < 256 ^ m → numF (bE m n) = n
 | 0, n, h0, h1 => by
  simp at h1
  have : n = 0 := by omega
  subst this
  rfl
 | m + 1, n, h0, h1 => by
  rw [bE, numF_snoc, numF_bE m (n / 256) (by omega) (by
   rw [Int.pow_succ] at h1
   exact Int.ediv_lt_of_lt_mul (by decide) h1)]
  omega
theorem least_p (n : Int) (h0 : 0 ≤ n) (h1 : n < 18446744073709551616) : ∃ m, 1 ≤ m ∧ m ≤ 8 ∧ leastP n = bE m n ∧ n < 256 ^ m := by
 unfold leastP
 by_cases c1 : n / 256 = 0
 ·exact ⟨1, by decide, by decide, by rw [if_pos c1], by show n < 256; omega⟩
 rw [if_neg c1]
 by_cases c2 : n / 65536 = 0
 ·exact ⟨2, by decide, by decide, by rw [if_pos c2], by show n < 65536; omega⟩
 rw [if_neg c2]
 by_cases c3 : n / 16777216 = 0
 ·exact ⟨3, by decide, by decide, by rw [if_pos c3], by show n < 16777216; omega⟩
 rw [if_neg c3]
 by_cases c4 : n / 4294967296 = 0
 ·exact ⟨4, by decide, by decide, by rw [if_pos c4], by show n < 4294967296; omega⟩
 rw [if_neg c4]
 by_cases c5 : n / 1099511627776 = 0
 ·exact ⟨5, by decide, by decide, by rw [if_pos c5], by show n < 1099511627776; omega⟩
 rw [if_neg c5]
 by_cases c6 : n / 281474976710656 = 0
 ·exact ⟨6, by decide, by decide, by rw [if_pos c6], by show n < 281474976710656; omega⟩
 rw [if_neg c6]
 by_cases c7 : n / 72057594037927936 = 0
 ·exact ⟨7, by decide, by decide, by rw [if_pos c7], by show n < 72057594037927936; omega⟩
 rw [if_neg c7]
 exact ⟨8, by decide, by decide, rfl, by show n < 18446744073709551616; omega⟩
/-- A whole number as an element. -/
def intT (n : Int) : T := bigT (leastP n)
theorem int_f (n : Int) (h0 : 0 ≤ n) (h1 : n < 18446744073709551616) : scalar_Int.f 20 n = some (2, bigB (stripZ (leastP n)), []) := by
 obtain ⟨m, m1, m2, hm, _⟩ := least_p n h0 h1
 have hb := bE_byte m n
 unfold scalar_Int.f
 rw [least_f n h0, Option.bind_some]
 unfold scalar_Big.f
 rw [if_pos ⟨by rw [hm, hb.2]; omega, by rw [hm]; exact hb.1⟩]
 rfl

end Go.Proofs.YtcbmjmphicfgpaaGreatDoor.Tlv
end

section
set_option linter.unusedVariables false
set_option linter.unusedSimpArgs false
namespace Go.Proofs.YtcbmjmphicfgpaaGreatDoor.Tlv
open Go.RowKit Go.Proofs.YtcbmjmphicfgpaaGreatDoorW.PrintWords Go.Proofs.YtcbmjmphicfgpaaGreatDoorW.PrintLast Go.Proofs.YtcbmjmphicfgpaaGreatDoorW.PrintMore Go.Proofs.YtcbmjmphicfgpaaGreatDoor.PT

/-- The number of bytes, if it is not too large. -/
def numP : List Int → Option Int
 | [] => some 0
 | x :: l => if l.length + 1 ≤ 8 then some (numF (x :: l)) else if x = 0 then numP l else none
theorem numP_small {l : List Int} (h : l.length ≤ 8) : numP l = some (numF l) := by
 cases l with
 | nil => rfl
 | cons x l => rw [numP, if_pos (by simpa using h)]
def NumPost (r : Option Int) (w : World) (e : Ending) (w' : World) : Prop := (e = match r with
 | some x => .returned (.tuple #[.int .u64 x, .bool true])
 | none => .returned (.tuple #[.int .u64 0, .bool false])) ∧ w = w'
theorem numF_take (l : List Int) (k : Nat) (h : k < l.length) : numF (l.take (k + 1)) = numF (l.take k) * 256 + l.getD k 0 := by
 rw [List.take_succ_eq_append_getElem h, numF_snoc]
 simp [List.getD, List.getElem?_eq_getElem h]
theorem numF_bound : ∀ (k : Nat) (l : List Int), (∀ v ∈ l, 0 ≤ v ∧ v < 256) → 0 ≤ numF (l.take k) ∧ numF (l.take k) < 256 ^ k
 | 0, l, _ => by simp [numF]
 | k + 1, l, h => by
  have ih := numF_bound k l h
  by_cases hk : k < l.length
  ·rw [numF_take l k hk, Int.pow_succ]
   have hm : l.getD k 0 ∈ l := by simp [List.getD, List.getElem?_eq_getElem hk]
   have := h _ hm
   omega
  ·rw [List.take_of_length_le (by omega)]
   rw [List.take_of_length_le (by omega)] at ih
   rw [Int.pow_succ]
   have : (0 : Int) < 256 ^ k := Int.pow_pos (by decide)
   omega
theorem or_byte (a b : Int) (h0 : 0 ≤ a) (h1 : a < 72057594037927936) (h2 : 0 ≤ b) (h3 : b < 256) : Go.bits .or .u64 (a * 256) b = a * 256 + b :=
by
 have e1 : (2 : Int) ^ 64 = 18446744073709551616 := by decide
 have e2 : (2 : Int) ^ 8 = 256 := by decide
 exact bits_join .u64 64 (by decide) (fun n g0 g1 => by rw [show IntKind.u64.wrap n = n % 18446744073709551616 by simp [IntKind.wrap, IntKind.bits, IntKind.signed]]; omega) 8 (a * 256) b (by omega) (by rw [e2]; omega) (by rw [e1]; omega) h2 (by rw [e2]; omega) (by rw [e1]; omega)
theorem pow_le8 (k : Nat) (h : k ≤ 7) : (256 : Int) ^ k ≤ 72057594037927936 := by
 have : ∀ k : Nat, k ≤ 7 → (256 : Int) ^ k ≤ 72057594037927936 := by decide +kernel
 exact this k h

set_option maxHeartbeats 1000000 in
set_option maxRecDepth 100000 in
theorem num_walk (A : Option Addr) (c : Nat) (l : List Int) (w : World) (hr : ReadsInt w .u8 A l.length l) (hc : l.length ≤ c) (hl : l.length ≤ 1000000000) (hv : ∀ x ∈ l, 0 ≤ x ∧ x < 256) :
 Calls Tryz.prog 125 #[.slice A l.length c] w (NumPost (numP l) w) := by
 obtain ⟨i0, hi, hz0, hz1, hz2⟩ := info_parts infoByte
 have HI := Lib.hid (And.intro hi hz1)
 have HR := Lib.hid hr
 have HV := Lib.hid hv
 generalize hS : numP l = S
 have HS := Lib.hid hS
 clear hi hz0 hz1 hz2 hr hS hv
 go_enter Tryz.func125, Tryz.ntmps125
 go_wp2
 go_loop [0] (fun t => ∃ A' c' m, t = .slice A' (List.length m) c' ∧ ReadsInt w .u8 A' m.length m ∧ m.length ≤ c' ∧ m.length ≤ 1000000000 ∧ (∀ x ∈ m, 0 ≤ x ∧ x < 256) ∧ numP m = S) (fun t => lenV t)
 case atStart => exact ⟨A, c, l, rfl, HR.out, hc, hl, HV.out, HS.out⟩
 case round =>
  obtain ⟨A1, c1, m, rfl, h1, h2, h3, h5, h4⟩ := hrel
  clear HS HV HR
  by_cases h8 : m.length ≤ 8
  ·have hd1 := eq_false (show ¬ ((8 : Int) < (m.length : Int)) by omega)
   have hd2 : decide ((8 : Int) < (m.length : Int)) = false := decide_eq_false (by omega)
   have hS2 : S = some (numF m) := by rw [← h4, numP_small h8]
   subst hS2
   have HM := Lib.hid (And.intro h1 (And.intro h5 h8))
   have h8' : (m.length : Int) ≤ 8 := by omega
   clear h1 h2 h3 h4 h5 h8
   go_wp2
   go_loop [4, 18] (fun t i => ∃ k : Nat, k ≤ m.length ∧ i = .int .i64 k ∧ t = .int .u64 (numF (m.take k))) (fun _ i => m.length - (intOf i).toNat)
   case atStart => exact ⟨0, Nat.zero_le _, rfl, by simp [numF]⟩
   case round =>
    obtain ⟨k, hk, rfl, rfl⟩ := hrel
    by_cases hlt : k < m.length
    ·obtain ⟨ad, e, hcell⟩ := HM.out.1.2.2 (by omega)
     subst e
     have hx0 := hcell k hlt
     have hb := numF_bound k m HM.out.2.1
     have hp := pow_le8 k (by have := HM.out.2.2; omega)
     have hm : m.getD k 0 ∈ m := by simp [List.getD, List.getElem?_eq_getElem hlt]
     have hbx := HM.out.2.1 _ hm
     have HOR := Lib.hid (or_byte (numF (m.take k)) (m.getD k 0) hb.1 (by omega) hbx.1 hbx.2)
     have HNX := Lib.hid (numF_take m k hlt)
     have hd1 := eq_true (show (k : Int) < (m.length : Int) by omega)
     have hd2 : decide ((k : Int) < (m.length : Int)) = true := decide_eq_true (by omega)
     have hw1 : IntKind.u64.wrap (numF (m.take k) * 256) = numF (m.take k) * 256 := by rw [show ∀ n : Int, IntKind.u64.wrap n = n % 18446744073709551616 from fun n => by simp [IntKind.wrap, IntKind.bits, IntKind.signed]]; omega
     have HW := Lib.hid hw1
     have HWX : Hid (IntKind.u64.wrap (m.getD k 0) = m.getD k 0) := Lib.hid (by rw [show ∀ n : Int, IntKind.u64.wrap n = n % 18446744073709551616 from fun n => by simp [IntKind.wrap, IntKind.bits, IntKind.signed]]; omega)
     have hb0 := hb.1
     have hbl := hb.2
     clear hcell hm hw1 hb hp hbl
     go_wp2
     go_round
     case rel =>
      refine ⟨k + 1, by omega, by go_num, ?_⟩
      have e : m[k] = m.getD k 0 := by simp [List.getD, List.getElem?_eq_getElem hlt]
      rw [HNX.out, HW.out, e, HWX.out, HOR.out]
     case measure => simp [intOf]; omega
    ·have hd1 := eq_false (show ¬ ((k : Int) < (m.length : Int)) by omega)
     have hd2 : decide ((k : Int) < (m.length : Int)) = false := decide_eq_false (by omega)
     have hkk : m.take k = m := List.take_of_length_le (by omega)
     rw [hkk]
     clear hkk
     go_wp2
     go_ret2
     exact ⟨rfl, rfl⟩
  ·cases m with
   | nil => simp at h8
   | cons x m =>
    have hd1 := eq_true (show ((8 : Int) < ((m.length + 1 : Nat) : Int)) by simp at h8; omega)
    have hd2 : decide ((8 : Int) < ((m.length + 1 : Nat) : Int)) = true := decide_eq_true (by simp at h8; omega)
    have hd3 : decide ((8 : Int) < (m.length : Int) + 1) = true := decide_eq_true (by simp at h8; omega)
    have hd4 := eq_true (show ((8 : Int) < (m.length : Int) + 1) by simp at h8; omega)
    have hd5 := eq_true (show 8 < m.length + 1 by simp at h8; omega)
    have hd6 : decide (8 < m.length + 1) = true := decide_eq_true (by simp at h8; omega)
    have hd7 := eq_true (show 8 ≤ m.length by simp at h8; omega)
    have hd8 := eq_true (show (8 : Int) ≤ (m.length : Int) by simp at h8; omega)
    obtain ⟨ad, e, hcell⟩ := h1.2.2 (by simp)
    subst e
    have hx0 := hcell 0 (by simp)
    replace hx0 : w.cell? ad = some (.int .u8 x) := by simpa [Addr.add] using hx0
    have el : (x :: m).length = m.length + 1 := rfl
    obtain ⟨A2, hcut, hcr, hcc⟩ := print_cut_int (P := Tryz.prog) (k := .u8) 29 5 Tryz.underlying29 HI.out.1 HI.out.2 (some ad) c1 (x :: m) 1 (by omega) (by simp; omega) h2
    have HM := Lib.hid (And.intro h1 (And.intro h2 (And.intro h3 (And.intro h5 (And.intro hcr hcc)))))
    have hnp : numP (x :: m) = if x = 0 then numP m else none := by rw [numP, if_neg (by simpa using h8)]
    rw [hnp] at h4
    have H4 := Lib.hid h4
    rw [el] at hcut ⊢
    clear h1 h2 h3 h4 h5 hcr hcc hcell el h8 hnp
    by_cases h0 : x = 0
    ·subst h0
     go_wp2
     go_round
     case rel =>
      obtain ⟨g1, g2, g3, g4, g5, g6⟩ := HM.out
      have g5 := g5 w g1
      have ed : (((0 : Int) :: m).drop (Int.toNat 1)) = m := rfl
      rw [ed] at g5 g6
      exact ⟨A2, _, m, rfl, g5, by first | exact g6 | (simpa using g6), by simp at g3; omega, fun v hv => g4 v (List.mem_cons_of_mem _ hv), by rw [← H4.out, if_pos rfl]⟩
     case measure => simp [lenV]
    ·have h0a := eq_false h0
     have h0b : (x == 0) = false := beq_eq_false_iff_ne.2 h0
     have h0c : (x != 0) = true := bne_iff_ne.2 h0
     have hS2 : S = none := by rw [← H4.out, if_neg h0]
     subst hS2
     clear h0
     go_wp2
     go_ret2
     exact ⟨rfl, rfl⟩

end Go.Proofs.YtcbmjmphicfgpaaGreatDoor.Tlv
end

section
set_option linter.unusedVariables false
set_option linter.unusedSimpArgs false
namespace Go.Proofs.YtcbmjmphicfgpaaGreatDoor.Tlv
open Go.RowKit Go.Proofs.YtcbmjmphicfgpaaGreatDoorW.PrintWords Go.Proofs.YtcbmjmphicfgpaaGreatDoorW.PrintLast Go.Proofs.YtcbmjmphicfgpaaGreatDoorW.PrintMore Go.Proofs.YtcbmjmphicfgpaaGreatDoor.PT

set_option maxHeartbeats 4000000 in
set_option maxRecDepth 100000 in
theorem of1_walk (p q : Nat) (B : Option Addr) (cb : Nat) (lb : List Int) (many : Int) (r : T) (r4 : Int) (w : World) (tp tq : TypeId) (hp : w.heap[p]? = some (.cells #[.slice B lb.length cb] tp (0, 0))) (hq : w.heap[q]? = some (.cells #[.int .i64 many] tq (0, 0)))
 (hr : ReadsInt w .u8 B lb.length lb) (hc : lb.length ≤ cb) (hf : scalar_Bits.f lb many = some (r.f0, r.f1, r.f2, r4)) :
 Calls Tryz.prog 122 #[.pointer (some ⟨p, 0, none⟩), .pointer (some ⟨q, 0, none⟩)] w fun e w' => ∃ v1 v2, e = .returned (.tuple #[.agg #[.int .i64 r.f0, v1, v2], .int .i64 r4]) ∧ NodeR w' w.heap.size w'.heap.size r v1 v2 ∧ Below w.heap.size w w' := by
 have p0 : (w.alloc (.cells #[.int .i64 0, .slice none 0 0, .slice none 0 0] 51)).cell? ⟨p, 0, none⟩ = some (.slice B lb.length cb) := Lib.cell_of_heap ((Below.heap_alloc w _ _ (heap_lt hp)).trans hp) 0
 have q0 : (w.alloc (.cells #[.int .i64 0, .slice none 0 0, .slice none 0 0] 51)).cell? ⟨q, 0, none⟩ = some (.int .i64 many) := Lib.cell_of_heap ((Below.heap_alloc w _ _ (heap_lt hq)).trans hq) 0
 have hb0 : (w.alloc (.cells #[.int .i64 0, .slice none 0 0, .slice none 0 0] 51)).heap[w.heap.size]? = some (.cells #[.int .i64 0, .slice none 0 0, .slice none 0 0] 51 (0, 0)) := heap_alloc_new w _
 have hB1 : Below w.heap.size w (w.alloc (.cells #[.int .i64 0, .slice none 0 0, .slice none 0 0] 51)) := (Below.refl _ _).alloc (Nat.le_refl _) _
 have HBITS := Lib.hid (scalar_Bits.calls B cb lb many r.f0 r.f1 r.f2 r4 (w.alloc (.cells #[.int .i64 0, .slice none 0 0, .slice none 0 0] 51)) (Kd.C_below (C_of_reads hr rfl) hB1) hc hf)
 have p1 : w.cell? ⟨p, 0, none⟩ = some (.slice B lb.length cb) := Lib.cell_of_heap hp 0
 have q1 : w.cell? ⟨q, 0, none⟩ = some (.int .i64 many) := Lib.cell_of_heap hq 0
 have hpn : p < w.heap.size := heap_lt hp
 have hqn : q < w.heap.size := heap_lt hq
 have hpe : (p = w.heap.size) = False := eq_false (by omega)
 have hqe : (q = w.heap.size) = False := eq_false (by omega)
 clear hp hq hr hc hf
 have HB00 := Lib.hid hb0
 have HB11 := Lib.hid hB1
 clear hb0 hB1
 go_enter Tryz.func122, Tryz.ntmps122
 go_wp2_with (fail)
 refine HBITS.out.mono ?_
 have hb0 := HB00.out
 have hB1 := HB11.out
 generalize w.alloc (.cells #[.int .i64 0, .slice none 0 0, .slice none 0 0] 51) = w1 at p0 q0 hb0 hB1 HBITS HB00 HB11
 rintro e w3 ⟨v1, v2, rfl, hv1, hv2, hB3⟩
 obtain ⟨A1, c1, rfl⟩ := Kd.R_slice hv1
 obtain ⟨A2, c2, rfl⟩ := Kd.R_slice hv2
 have hb3 := (hB3.block _ (heap_lt hb0)).trans hb0
 have hB := hB1.trans (hB3.mono hB1.size)
 have h0 := NodeR.of (n := r) hv1 hv2
 have H0 := Lib.hid h0
 have HB := Lib.hid hB
 have HB3 := Lib.hid hb3
 have HLT := Lib.hid (And.intro (heap_lt hb0) hB3.size)
 have a0 := Lib.cell_of_heap hb3 0
 have a1 := Lib.cell_of_heap hb3 1
 have a2 := Lib.cell_of_heap hb3 2
 have f0 := Lib.frozen_of_heap hb3 0
 have f1 := Lib.frozen_of_heap hb3 1
 have f2 := Lib.frozen_of_heap hb3 2
 have hsz : w.heap.size < w1.heap.size := heap_lt hb0
 clear h0 hB hb3 hB3 hv1 hv2 p0 q0 p1 q1 hpn hqn hpe hqe hb0 hB1 HBITS HB00 HB11
 go_wp2
 have z0 : (((w3.setCell ⟨w.heap.size, 0, none⟩ (.int .i64 r.f0)).setCell ⟨w.heap.size, 1, none⟩ (.slice A1 r.f1.length c1)).setCell ⟨w.heap.size, 2, none⟩ (.slice A2 r.f2.length c2)).heap[w.heap.size]? = some (.cells #[.int .i64 r.f0, .slice A1 r.f1.length c1, .slice A2 r.f2.length c2] 51 (0, 0)) :=
  heap_setCell_same _ _ 2 _ _ _ (heap_setCell_same _ _ 1 _ _ _ (heap_setCell_same _ _ 0 _ _ _ HB3.out))
 have zB : Below w.heap.size w (((w3.setCell ⟨w.heap.size, 0, none⟩ (.int .i64 r.f0)).setCell ⟨w.heap.size, 1, none⟩ (.slice A1 r.f1.length c1)).setCell ⟨w.heap.size, 2, none⟩ (.slice A2 r.f2.length c2)) :=
  Below.setCell (Below.setCell (Below.setCell HB.out (p := ⟨w.heap.size, 0, none⟩) (Nat.le_refl _) _) (p := ⟨w.heap.size, 1, none⟩) (Nat.le_refl _) _) (p := ⟨w.heap.size, 2, none⟩) (Nat.le_refl _) _
 have zk : ∀ k, k ≠ w.heap.size → (((w3.setCell ⟨w.heap.size, 0, none⟩ (.int .i64 r.f0)).setCell ⟨w.heap.size, 1, none⟩ (.slice A1 r.f1.length c1)).setCell ⟨w.heap.size, 2, none⟩ (.slice A2 r.f2.length c2)).heap[k]? = w3.heap[k]? :=
  fun k hk => (heap_setCell_other _ _ _ _ hk).trans ((heap_setCell_other _ _ _ _ hk).trans (heap_setCell_other _ _ _ _ hk))
 have zs : (((w3.setCell ⟨w.heap.size, 0, none⟩ (.int .i64 r.f0)).setCell ⟨w.heap.size, 1, none⟩ (.slice A1 r.f1.length c1)).setCell ⟨w.heap.size, 2, none⟩ (.slice A2 r.f2.length c2)).heap.size = w3.heap.size := by simp
 generalize ((w3.setCell ⟨w.heap.size, 0, none⟩ (.int .i64 r.f0)).setCell ⟨w.heap.size, 1, none⟩ (.slice A1 r.f1.length c1)).setCell ⟨w.heap.size, 2, none⟩ (.slice A2 r.f2.length c2) = w5 at z0 zB zk zs ⊢
 have b0 := Lib.cell_of_heap z0 0
 have b1 := Lib.cell_of_heap z0 1
 have b2 := Lib.cell_of_heap z0 2
 refine bodyPost_ret (v := .tuple #[.agg #[.int .i64 r.f0, .slice A1 r.f1.length c1, .slice A2 r.f2.length c2], .int .i64 r4]) (by simp [results, Tryz.results122, go_sem, b0, b1, b2]) rfl ?_
 refine ⟨_, _, rfl, ?_, zB⟩
 exact NodeR.widen (NodeR.move (w1 := w5) H0.out (fun k hk1 hk2 => zk k (by omega))) (by omega) (by omega)

def sameB (r n : T) : Bool := decide (r.f0 = n.f0) && (eqB r.f1 n.f1 && (wrap64 ((r.f2.length : Int) + (n.f2.length : Int)) == 0))
theorem sameB_f (r n : T) : scalar_same.f r.f0 r.f1 r.f2 n.f0 n.f1 n.f2 = some (sameB r n) := by
 unfold scalar_same.f sameB bytes_Equal.f
 by_cases h : r.f0 = n.f0
 ·rw [if_pos h, Option.bind_some, decide_eq_true h]
  show (if eqB r.f1 n.f1 = true then _ else _) = _
  generalize (wrap64 ((r.f2.length : Int) + (n.f2.length : Int)) == 0) = z
  cases eqB r.f1 n.f1 <;> cases z <;> rfl
 ·rw [if_neg h, decide_eq_false h, Bool.false_and]

set_option maxHeartbeats 4000000 in
set_option maxRecDepth 100000 in
theorem just_walk (X : Option Addr) (x : List Int) (cx : Nat) (n : T) (A1 : Option Addr) (c1 : Nat) (A2 : Option Addr) (c2 : Nat) (p q : Nat) (w : World) (hn : NodeAt w n A1 c1 A2 c2)
 (B : Option Addr) (cb : Nat) (lb : List Int) (many : Int) (r : T) (r4 : Int) (tp tq : TypeId) (hp : w.heap[p]? = some (.cells #[.slice B lb.length cb] tp (0, 0))) (hq : w.heap[q]? = some (.cells #[.int .i64 many] tq (0, 0)))
 (hr : ReadsInt w .u8 B lb.length lb) (hc : lb.length ≤ cb) (hf : scalar_Bits.f lb many = some (r.f0, r.f1, r.f2, r4)) :
 Calls Tryz.prog 121 #[.slice X x.length cx, .bool true, .agg #[.int .i64 n.f0, .slice A1 n.f1.length c1, .slice A2 n.f2.length c2], .func (.func 122) #[] #[.pointer (some ⟨p, 0, none⟩), .pointer (some ⟨q, 0, none⟩)]] w
  fun e w' => e = .returned (if r4 = 0 ∧ sameB r n = true then .tuple #[.slice X x.length cx, .int .i64 0] else .tuple #[.slice none 0 0, .int .i64 2]) ∧ Below w.heap.size w w' := by
 have hnot : ∀ (x : Bool) (w : World), (Op.unary .not (.bool x)).run Tryz.prog w = .ok (.bool (!x)) w := fun _ _ => rfl
 have hb0 : (w.alloc (.cells #[.int .i64 n.f0, .slice A1 n.f1.length c1, .slice A2 n.f2.length c2] 51)).heap[w.heap.size]? = some (.cells #[.int .i64 n.f0, .slice A1 n.f1.length c1, .slice A2 n.f2.length c2] 51 (0, 0)) := heap_alloc_new w _
 have hB1 : Below w.heap.size w (w.alloc (.cells #[.int .i64 n.f0, .slice A1 n.f1.length c1, .slice A2 n.f2.length c2] 51)) := (Below.refl _ _).alloc (Nat.le_refl _) _
 have HLAY := Lib.hid (of1_walk p q B cb lb many r r4 _ tp tq ((hB1.block _ (heap_lt hp)).trans hp) ((hB1.block _ (heap_lt hq)).trans hq) (ReadsInt_below hr hB1) hc hf)
 have HN := Lib.hid (fun w' (hB : Below w.heap.size w w') => hn.below hB)
 have HB0 := Lib.hid hb0
 have HB1 := Lib.hid hB1
 generalize hRR : (if r4 = 0 ∧ sameB r n = true then Value.tuple #[.slice X x.length cx, .int .i64 0] else .tuple #[.slice none 0 0, .int .i64 2]) = RR
 clear hp hq hr hc hf hn hb0 hB1
 go_enter Tryz.func121, Tryz.ntmps121
 go_wp2_with (fail)
 refine HLAY.out.mono ?_
 rintro e w3 ⟨v1, v2, rfl, hv, hB3⟩
 obtain ⟨M1, m1, M2, m2, rfl, rfl, hm⟩ := hv.form
 have hb3 := (hB3.block _ (heap_lt HB0.out)).trans HB0.out
 have hB := HB1.out.trans (hB3.mono HB1.out.size)
 have HM := Lib.hid hm
 have HB := Lib.hid hB
 have HB3 := Lib.hid hb3
 have a0 := Lib.cell_of_heap hb3 0
 have a1 := Lib.cell_of_heap hb3 1
 have a2 := Lib.cell_of_heap hb3 2
 have hlt := heap_lt hb3
 clear hv hm hB hb3 hB3 HLAY
 by_cases h4 : r4 = 0
 ·subst h4
  have HSAME := Lib.hid (scalar_same.calls r.f0 M1 m1 r.f1 M2 m2 r.f2 n.f0 A1 c1 n.f1 A2 c2 n.f2 (sameB r n) (w3.alloc (.cells #[.int .i64 r.f0, .slice M1 r.f1.length m1, .slice M2 r.f2.length m2] 51))
   (Kd.C_below HM.out.1 ((Below.refl _ _).alloc (Nat.le_refl _) _)) HM.out.2.1 (Kd.C_below HM.out.2.2.1 ((Below.refl _ _).alloc (Nat.le_refl _) _)) HM.out.2.2.2
   (Kd.C_below (HN.out _ HB.out).1 ((Below.refl _ _).alloc (Nat.le_refl _) _)) (HN.out _ HB.out).2.1 (Kd.C_below (HN.out _ HB.out).2.2.1 ((Below.refl _ _).alloc (Nat.le_refl _) _)) (HN.out _ HB.out).2.2.2 (sameB_f r n))
  have HBF := Lib.hid (show Below w.heap.size w (w3.alloc (.cells #[.int .i64 r.f0, .slice M1 r.f1.length m1, .slice M2 r.f2.length m2] 51)) from HB.out.alloc HB.out.size _)
  go_wp2_with (fail)
  refine HSAME.out.mono ?_
  rintro e w4 ⟨rfl, hB4⟩
  have hBf := HBF.out.trans (hB4.mono HBF.out.size)
  clear hB4
  cases hs : sameB r n with
  | true =>
   have hp : RR = .tuple #[.slice X x.length cx, .int .i64 0] := by rw [← hRR]; simp [hs]
   clear hRR
   subst hp
   clear hs
   go_wp2
   go_ret2
   exact ⟨by first | rfl | trivial | simp, hBf⟩
  | false =>
   have hp : RR = .tuple #[.slice none 0 0, .int .i64 2] := by rw [← hRR, if_neg (by rw [hs]; simp)]
   clear hRR
   subst hp
   clear hs
   go_wp2
   go_ret2
   exact ⟨by first | rfl | trivial | simp, hBf⟩
 ·have hp : RR = .tuple #[.slice none 0 0, .int .i64 2] := by rw [← hRR, if_neg (fun h => h4 h.1)]
  clear hRR
  subst hp
  have h4' : decide (r4 = 0) = false := decide_eq_false h4
  have h4'' := eq_false h4
  clear h4
  have HBF := Lib.hid (show Below w.heap.size w (w3.alloc (.cells #[.int .i64 r.f0, .slice M1 r.f1.length m1, .slice M2 r.f2.length m2] 51)) from HB.out.alloc HB.out.size _)
  go_wp2
  go_ret2
  exact ⟨by first | rfl | trivial | simp, HBF.out⟩

end Go.Proofs.YtcbmjmphicfgpaaGreatDoor.Tlv
end

section
set_option linter.unusedVariables false
set_option linter.unusedSimpArgs false
namespace Go.Proofs.YtcbmjmphicfgpaaGreatDoor.Tlv
open Go.RowKit Go.Proofs.YtcbmjmphicfgpaaGreatDoorW.PrintWords Go.Proofs.YtcbmjmphicfgpaaGreatDoorW.PrintLast Go.Proofs.YtcbmjmphicfgpaaGreatDoorW.PrintMore Go.Proofs.YtcbmjmphicfgpaaGreatDoor.PT

set_option maxHeartbeats 4000000 in
set_option maxRecDepth 100000 in
theorem just_B (xv : Value) (b : Bool) (n : T) (A1 : Option Addr) (c1 : Nat) (A2 : Option Addr) (c2 : Nat) (p : Nat) (w : World) (hn : NodeAt w n A1 c1 A2 c2) (r : T) (r4 : Int)
 (hlay : ∀ w1, Below w.heap.size w w1 → Calls Tryz.prog 124 #[.pointer (some ⟨p, 0, none⟩)] w1 fun e w' => ∃ v1 v2, e = .returned (.tuple #[.agg #[.int .i64 r.f0, v1, v2], .int .i64 r4]) ∧ NodeR w' w1.heap.size w'.heap.size r v1 v2 ∧ Below w1.heap.size w1 w') :
 Calls Tryz.prog 121 #[xv, .bool b, .agg #[.int .i64 n.f0, .slice A1 n.f1.length c1, .slice A2 n.f2.length c2], .func (.func 124) #[] #[.pointer (some ⟨p, 0, none⟩)]] w
  fun e w' => e = .returned (if b = true ∧ r4 = 0 ∧ sameB r n = true then .tuple #[xv, .int .i64 0] else .tuple #[.slice none 0 0, .int .i64 2]) ∧ Below w.heap.size w w' := by
 have hnot : ∀ (x : Bool) (w : World), (Op.unary .not (.bool x)).run Tryz.prog w = .ok (.bool (!x)) w := fun _ _ => rfl
 have hb0 : (w.alloc (.cells #[.int .i64 n.f0, .slice A1 n.f1.length c1, .slice A2 n.f2.length c2] 51)).heap[w.heap.size]? = some (.cells #[.int .i64 n.f0, .slice A1 n.f1.length c1, .slice A2 n.f2.length c2] 51 (0, 0)) := heap_alloc_new w _
 have hB1 : Below w.heap.size w (w.alloc (.cells #[.int .i64 n.f0, .slice A1 n.f1.length c1, .slice A2 n.f2.length c2] 51)) := (Below.refl _ _).alloc (Nat.le_refl _) _
 have HLAY := Lib.hid (hlay _ hB1)
 have HN := Lib.hid (fun w' (hB : Below w.heap.size w w') => hn.below hB)
 have HB0 := Lib.hid hb0
 have HB1 := Lib.hid hB1
 generalize hRR : (if b = true ∧ r4 = 0 ∧ sameB r n = true then Value.tuple #[xv, .int .i64 0] else .tuple #[.slice none 0 0, .int .i64 2]) = RR
 clear hn hb0 hB1 hlay
 cases b with
 | false =>
  have hp : RR = .tuple #[.slice none 0 0, .int .i64 2] := by rw [← hRR, if_neg (fun h => by cases h.1)]
  clear hRR
  subst hp
  go_enter Tryz.func121, Tryz.ntmps121
  go_wp2
  go_ret2
  exact ⟨by first | rfl | trivial | simp, HB1.out⟩
 | true =>
 go_enter Tryz.func121, Tryz.ntmps121
 go_wp2_with (fail)
 refine HLAY.out.mono ?_
 rintro e w3 ⟨v1, v2, rfl, hv, hB3⟩
 obtain ⟨M1, m1, M2, m2, rfl, rfl, hm⟩ := hv.form
 have hb3 := (hB3.block _ (heap_lt HB0.out)).trans HB0.out
 have hB := HB1.out.trans (hB3.mono HB1.out.size)
 have HM := Lib.hid hm
 have HB := Lib.hid hB
 have HB3 := Lib.hid hb3
 have a0 := Lib.cell_of_heap hb3 0
 have a1 := Lib.cell_of_heap hb3 1
 have a2 := Lib.cell_of_heap hb3 2
 have hlt := heap_lt hb3
 clear hv hm hB hb3 hB3 HLAY
 by_cases h4 : r4 = 0
 ·subst h4
  have HSAME := Lib.hid (scalar_same.calls r.f0 M1 m1 r.f1 M2 m2 r.f2 n.f0 A1 c1 n.f1 A2 c2 n.f2 (sameB r n) (w3.alloc (.cells #[.int .i64 r.f0, .slice M1 r.f1.length m1, .slice M2 r.f2.length m2] 51))
   (Kd.C_below HM.out.1 ((Below.refl _ _).alloc (Nat.le_refl _) _)) HM.out.2.1 (Kd.C_below HM.out.2.2.1 ((Below.refl _ _).alloc (Nat.le_refl _) _)) HM.out.2.2.2
   (Kd.C_below (HN.out _ HB.out).1 ((Below.refl _ _).alloc (Nat.le_refl _) _)) (HN.out _ HB.out).2.1 (Kd.C_below (HN.out _ HB.out).2.2.1 ((Below.refl _ _).alloc (Nat.le_refl _) _)) (HN.out _ HB.out).2.2.2 (sameB_f r n))
  have HBF := Lib.hid (show Below w.heap.size w (w3.alloc (.cells #[.int .i64 r.f0, .slice M1 r.f1.length m1, .slice M2 r.f2.length m2] 51)) from HB.out.alloc HB.out.size _)
  go_wp2_with (fail)
  refine HSAME.out.mono ?_
  rintro e w4 ⟨rfl, hB4⟩
  have hBf := HBF.out.trans (hB4.mono HBF.out.size)
  clear hB4
  cases hs : sameB r n with
  | true =>
   have hp : RR = .tuple #[xv, .int .i64 0] := by rw [← hRR]; simp [hs]
   clear hRR
   subst hp
   clear hs
   go_wp2
   go_ret2
   exact ⟨by first | rfl | trivial | simp, hBf⟩
  | false =>
   have hp : RR = .tuple #[.slice none 0 0, .int .i64 2] := by rw [← hRR, if_neg (by rw [hs]; simp)]
   clear hRR
   subst hp
   clear hs
   go_wp2
   go_ret2
   exact ⟨by first | rfl | trivial | simp, hBf⟩
 ·have hp : RR = .tuple #[.slice none 0 0, .int .i64 2] := by rw [← hRR, if_neg (fun h => h4 h.2.1)]
  clear hRR
  subst hp
  have h4' : decide (r4 = 0) = false := decide_eq_false h4
  have h4'' := eq_false h4
  clear h4
  have HBF := Lib.hid (show Below w.heap.size w (w3.alloc (.cells #[.int .i64 r.f0, .slice M1 r.f1.length m1, .slice M2 r.f2.length m2] 51)) from HB.out.alloc HB.out.size _)
  go_wp2
  go_ret2
  exact ⟨by first | rfl | trivial | simp, HBF.out⟩

set_option maxHeartbeats 4000000 in
set_option maxRecDepth 100000 in
theorem just_U (xv : Value) (b : Bool) (n : T) (A1 : Option Addr) (c1 : Nat) (A2 : Option Addr) (c2 : Nat) (p : Nat) (w : World) (hn : NodeAt w n A1 c1 A2 c2) (r : T) (r4 : Int)
 (hlay : ∀ w1, Below w.heap.size w w1 → Calls Tryz.prog 127 #[.pointer (some ⟨p, 0, none⟩)] w1 fun e w' => ∃ v1 v2, e = .returned (.tuple #[.agg #[.int .i64 r.f0, v1, v2], .int .i64 r4]) ∧ NodeR w' w1.heap.size w'.heap.size r v1 v2 ∧ Below w1.heap.size w1 w') :
 Calls Tryz.prog 126 #[xv, .bool b, .agg #[.int .i64 n.f0, .slice A1 n.f1.length c1, .slice A2 n.f2.length c2], .func (.func 127) #[] #[.pointer (some ⟨p, 0, none⟩)]] w
  fun e w' => e = .returned (if b = true ∧ r4 = 0 ∧ sameB r n = true then .tuple #[xv, .int .i64 0] else .tuple #[.int .u64 0, .int .i64 2]) ∧ Below w.heap.size w w' := by
 have hnot : ∀ (x : Bool) (w : World), (Op.unary .not (.bool x)).run Tryz.prog w = .ok (.bool (!x)) w := fun _ _ => rfl
 have hb0 : (w.alloc (.cells #[.int .i64 n.f0, .slice A1 n.f1.length c1, .slice A2 n.f2.length c2] 51)).heap[w.heap.size]? = some (.cells #[.int .i64 n.f0, .slice A1 n.f1.length c1, .slice A2 n.f2.length c2] 51 (0, 0)) := heap_alloc_new w _
 have hB1 : Below w.heap.size w (w.alloc (.cells #[.int .i64 n.f0, .slice A1 n.f1.length c1, .slice A2 n.f2.length c2] 51)) := (Below.refl _ _).alloc (Nat.le_refl _) _
 have HLAY := Lib.hid (hlay _ hB1)
 have HN := Lib.hid (fun w' (hB : Below w.heap.size w w') => hn.below hB)
 have HB0 := Lib.hid hb0
 have HB1 := Lib.hid hB1
 generalize hRR : (if b = true ∧ r4 = 0 ∧ sameB r n = true then Value.tuple #[xv, .int .i64 0] else .tuple #[.int .u64 0, .int .i64 2]) = RR
 clear hn hb0 hB1 hlay
 cases b with
 | false =>
  have hp : RR = .tuple #[.int .u64 0, .int .i64 2] := by rw [← hRR, if_neg (fun h => by cases h.1)]
  clear hRR
  subst hp
  go_enter Tryz.func126, Tryz.ntmps126
  go_wp2
  go_ret2
  exact ⟨by first | rfl | trivial | simp, HB1.out⟩
 | true =>
 go_enter Tryz.func126, Tryz.ntmps126
 go_wp2_with (fail)
 refine HLAY.out.mono ?_
 rintro e w3 ⟨v1, v2, rfl, hv, hB3⟩
 obtain ⟨M1, m1, M2, m2, rfl, rfl, hm⟩ := hv.form
 have hb3 := (hB3.block _ (heap_lt HB0.out)).trans HB0.out
 have hB := HB1.out.trans (hB3.mono HB1.out.size)
 have HM := Lib.hid hm
 have HB := Lib.hid hB
 have HB3 := Lib.hid hb3
 have a0 := Lib.cell_of_heap hb3 0
 have a1 := Lib.cell_of_heap hb3 1
 have a2 := Lib.cell_of_heap hb3 2
 have hlt := heap_lt hb3
 clear hv hm hB hb3 hB3 HLAY
 by_cases h4 : r4 = 0
 ·subst h4
  have HSAME := Lib.hid (scalar_same.calls r.f0 M1 m1 r.f1 M2 m2 r.f2 n.f0 A1 c1 n.f1 A2 c2 n.f2 (sameB r n) (w3.alloc (.cells #[.int .i64 r.f0, .slice M1 r.f1.length m1, .slice M2 r.f2.length m2] 51))
   (Kd.C_below HM.out.1 ((Below.refl _ _).alloc (Nat.le_refl _) _)) HM.out.2.1 (Kd.C_below HM.out.2.2.1 ((Below.refl _ _).alloc (Nat.le_refl _) _)) HM.out.2.2.2
   (Kd.C_below (HN.out _ HB.out).1 ((Below.refl _ _).alloc (Nat.le_refl _) _)) (HN.out _ HB.out).2.1 (Kd.C_below (HN.out _ HB.out).2.2.1 ((Below.refl _ _).alloc (Nat.le_refl _) _)) (HN.out _ HB.out).2.2.2 (sameB_f r n))
  have HBF := Lib.hid (show Below w.heap.size w (w3.alloc (.cells #[.int .i64 r.f0, .slice M1 r.f1.length m1, .slice M2 r.f2.length m2] 51)) from HB.out.alloc HB.out.size _)
  go_wp2_with (fail)
  refine HSAME.out.mono ?_
  rintro e w4 ⟨rfl, hB4⟩
  have hBf := HBF.out.trans (hB4.mono HBF.out.size)
  clear hB4
  cases hs : sameB r n with
  | true =>
   have hp : RR = .tuple #[xv, .int .i64 0] := by rw [← hRR]; simp [hs]
   clear hRR
   subst hp
   clear hs
   go_wp2
   go_ret2
   exact ⟨by first | rfl | trivial | simp, hBf⟩
  | false =>
   have hp : RR = .tuple #[.int .u64 0, .int .i64 2] := by rw [← hRR, if_neg (by rw [hs]; simp)]
   clear hRR
   subst hp
   clear hs
   go_wp2
   go_ret2
   exact ⟨by first | rfl | trivial | simp, hBf⟩
 ·have hp : RR = .tuple #[.int .u64 0, .int .i64 2] := by rw [← hRR, if_neg (fun h => h4 h.2.1)]
  clear hRR
  subst hp
  have h4' : decide (r4 = 0) = false := decide_eq_false h4
  have h4'' := eq_false h4
  clear h4
  have HBF := Lib.hid (show Below w.heap.size w (w3.alloc (.cells #[.int .i64 r.f0, .slice M1 r.f1.length m1, .slice M2 r.f2.length m2] 51)) from HB.out.alloc HB.out.size _)
  go_wp2
  go_ret2
  exact ⟨by first | rfl | trivial | simp, HBF.out⟩

end Go.Proofs.YtcbmjmphicfgpaaGreatDoor.Tlv
end

section
set_option linter.unusedVariables false
set_option linter.unusedSimpArgs false
namespace Go.Proofs.YtcbmjmphicfgpaaGreatDoor.Tlv
open Go.RowKit Go.Proofs.YtcbmjmphicfgpaaGreatDoorW.PrintWords Go.Proofs.YtcbmjmphicfgpaaGreatDoorW.PrintLast Go.Proofs.YtcbmjmphicfgpaaGreatDoorW.PrintMore Go.Proofs.YtcbmjmphicfgpaaGreatDoor.PT

/-- The last step of a closure that lays an element out: it is put into its place. -/
theorem clo_out {w w3 : World} {r : T} {A1 : Option Addr} {c1 : Nat} {A2 : Option Addr} {c2 : Nat} {n0 n1 n2 : Value} {base : Nat} (hb : w3.heap[w.heap.size]? = some (.cells #[n0, n1, n2] 51 (0, 0))) (hB : Below w.heap.size w w3) (hbase : w.heap.size < base) (hN : NodeR w3 base w3.heap.size r (.slice A1 r.f1.length c1) (.slice A2 r.f2.length c2)) (k1 k2 : Nat) (hk1 : r.f1.length = k1) (hk2 : r.f2.length = k2) (W : World) (hW : W = ((w3.setCell ⟨w.heap.size, 0, none⟩ (.int .i64 r.f0)).setCell ⟨w.heap.size, 1, none⟩ (.slice A1 k1 c1)).setCell ⟨w.heap.size, 2, none⟩ (.slice A2 k2 c2)) :
 W.heap[w.heap.size]? = some (.cells #[.int .i64 r.f0, .slice A1 k1 c1, .slice A2 k2 c2] 51 (0, 0)) ∧ NodeR W w.heap.size W.heap.size r (.slice A1 k1 c1) (.slice A2 k2 c2) ∧ Below w.heap.size w W := by
 subst hW
 subst hk1
 subst hk2
 refine ⟨heap_setCell_same _ _ 2 _ _ _ (heap_setCell_same _ _ 1 _ _ _ (heap_setCell_same _ _ 0 _ _ _ hb)), ?_, Below.setCell (Below.setCell (Below.setCell hB (p := ⟨w.heap.size, 0, none⟩) (Nat.le_refl _) _) (p := ⟨w.heap.size, 1, none⟩) (Nat.le_refl _) _) (p := ⟨w.heap.size, 2, none⟩) (Nat.le_refl _) _⟩
 refine NodeR.widen (NodeR.move (w1 := _) hN (fun k hk1 hk2 => ?_)) (by omega) (by simp)
 exact (heap_setCell_other _ _ _ _ (by show k ≠ w.heap.size; omega)).trans ((heap_setCell_other _ _ _ _ (by show k ≠ w.heap.size; omega)).trans (heap_setCell_other _ _ _ _ (by show k ≠ w.heap.size; omega)))

set_option maxHeartbeats 4000000 in
set_option maxRecDepth 100000 in
theorem great1_walk (p : Nat) (B : Option Addr) (cb : Nat) (lb : List Int) (w : World) (tp : TypeId) (hp : w.heap[p]? = some (.cells #[.slice B lb.length cb] tp (0, 0))) (hr : (Kd.int .u8).C w B lb.length lb) (hc : lb.length ≤ cb) (hv : ∀ x ∈ lb, 0 ≤ x ∧ x < 256) (hl : lb.length ≤ 500000) :
 Calls Tryz.prog 124 #[.pointer (some ⟨p, 0, none⟩)] w fun e w' => ∃ v1 v2, e = .returned (.tuple #[.agg #[.int .i64 (bigT lb).f0, v1, v2], .int .i64 0]) ∧ NodeR w' w.heap.size w'.heap.size (bigT lb) v1 v2 ∧ Below w.heap.size w w' := by
 have p0 : (w.alloc (.cells #[.int .i64 0, .slice none 0 0, .slice none 0 0] 51)).cell? ⟨p, 0, none⟩ = some (.slice B lb.length cb) := Lib.cell_of_heap ((Below.heap_alloc w _ _ (heap_lt hp)).trans hp) 0
 have hb0 : (w.alloc (.cells #[.int .i64 0, .slice none 0 0, .slice none 0 0] 51)).heap[w.heap.size]? = some (.cells #[.int .i64 0, .slice none 0 0, .slice none 0 0] 51 (0, 0)) := heap_alloc_new w _
 have hB1 : Below w.heap.size w (w.alloc (.cells #[.int .i64 0, .slice none 0 0, .slice none 0 0] 51)) := (Below.refl _ _).alloc (Nat.le_refl _) _
 have HBIG := Lib.hid (big_walk B cb lb _ (Kd.C_below hr hB1) hc hv hl)
 have p1 : w.cell? ⟨p, 0, none⟩ = some (.slice B lb.length cb) := Lib.cell_of_heap hp 0
 have hpn : p < w.heap.size := heap_lt hp
 have hpe : (p = w.heap.size) = False := eq_false (by omega)
 have HB00 := Lib.hid hb0
 have HB11 := Lib.hid hB1
 clear hp hr hc hv hl hb0 hB1
 go_enter Tryz.func124, Tryz.ntmps124
 go_wp2_with (fail)
 refine HBIG.out.mono ?_
 rintro e w3 ⟨v1, rfl, hN, hB3⟩
 obtain ⟨A1, c1, rfl, hnn, hnr⟩ := Kd.R_reads hN.b
 have hb3 := (hB3.block _ (heap_lt HB00.out)).trans HB00.out
 have hB := HB11.out.trans (hB3.mono HB11.out.size)
 have hs1 : (w.alloc (.cells #[.int .i64 0, .slice none 0 0, .slice none 0 0] 51)).heap.size = w.heap.size + 1 := by simp
 rw [hs1] at hN
 have HN := Lib.hid hN
 have HB := Lib.hid hB
 have HB3 := Lib.hid hb3
 have a0 := Lib.cell_of_heap hb3 0
 have a1 := Lib.cell_of_heap hb3 1
 have a2 := Lib.cell_of_heap hb3 2
 have f0 := Lib.frozen_of_heap hb3 0
 have f1 := Lib.frozen_of_heap hb3 1
 have f2 := Lib.frozen_of_heap hb3 2
 generalize hk : (bigT lb).f1.length = k1 at hN ⊢
 have HK := Lib.hid hk
 clear hN hB hb3 hB3 hnn hnr p0 p1 hpn hpe HBIG HB00 HB11 hs1 hk
 go_wp2
 obtain ⟨z, hNF, hF⟩ := clo_out (r := bigT lb) HB3.out HB.out (Nat.lt_succ_self _) HN.out k1 0 HK.out rfl _ rfl
 have e2 : (bigT lb).f0 = 2 := rfl
 rw [e2] at z hNF hF ⊢
 generalize ((w3.setCell ⟨w.heap.size, 0, none⟩ (.int .i64 2)).setCell ⟨w.heap.size, 1, none⟩ (.slice A1 k1 c1)).setCell ⟨w.heap.size, 2, none⟩ (.slice none 0 0) = w5 at z hNF hF ⊢
 have z0 := Lib.cell_of_heap z 0
 have z1 := Lib.cell_of_heap z 1
 have z2 := Lib.cell_of_heap z 2
 refine bodyPost_ret (v := .tuple #[.agg #[.int .i64 2, .slice A1 k1 c1, .slice none 0 0], .int .i64 0]) (by simp [results, Tryz.results124, go_sem, z0, z1, z2]) rfl ?_
 exact ⟨_, _, rfl, hNF, hF⟩

set_option maxHeartbeats 4000000 in
set_option maxRecDepth 100000 in
theorem uint1_walk (p : Nat) (x : Int) (w : World) (tp : TypeId) (hp : w.heap[p]? = some (.cells #[.int .u64 x] tp (0, 0))) (h0 : 0 ≤ x) (h1 : x < 18446744073709551616) :
 Calls Tryz.prog 127 #[.pointer (some ⟨p, 0, none⟩)] w fun e w' => ∃ v1 v2, e = .returned (.tuple #[.agg #[.int .i64 (intT x).f0, v1, v2], .int .i64 0]) ∧ NodeR w' w.heap.size w'.heap.size (intT x) v1 v2 ∧ Below w.heap.size w w' := by
 have p0 : (w.alloc (.cells #[.int .i64 0, .slice none 0 0, .slice none 0 0] 51)).cell? ⟨p, 0, none⟩ = some (.int .u64 x) := Lib.cell_of_heap ((Below.heap_alloc w _ _ (heap_lt hp)).trans hp) 0
 have hb0 : (w.alloc (.cells #[.int .i64 0, .slice none 0 0, .slice none 0 0] 51)).heap[w.heap.size]? = some (.cells #[.int .i64 0, .slice none 0 0, .slice none 0 0] 51 (0, 0)) := heap_alloc_new w _
 have hB1 : Below w.heap.size w (w.alloc (.cells #[.int .i64 0, .slice none 0 0, .slice none 0 0] 51)) := (Below.refl _ _).alloc (Nat.le_refl _) _
 have HINT := Lib.hid (scalar_Int.calls 20 x 2 (bigB (stripZ (leastP x))) [] (w.alloc (.cells #[.int .i64 0, .slice none 0 0, .slice none 0 0] 51)) (int_f x h0 h1))
 have p1 : w.cell? ⟨p, 0, none⟩ = some (.int .u64 x) := Lib.cell_of_heap hp 0
 have hpn : p < w.heap.size := heap_lt hp
 have hpe : (p = w.heap.size) = False := eq_false (by omega)
 have HB00 := Lib.hid hb0
 have HB11 := Lib.hid hB1
 clear hp h0 h1 hb0 hB1
 go_enter Tryz.func127, Tryz.ntmps127
 go_wp2_with (fail)
 refine HINT.out.mono ?_
 rintro e w3 ⟨v1, v2, rfl, hv1, hv2, hB3⟩
 have hN := NodeR.of (n := intT x) hv1 hv2
 obtain ⟨A1, c1, A2, c2, rfl, rfl, hnn⟩ := hN.form
 have hb3 := (hB3.block _ (heap_lt HB00.out)).trans HB00.out
 have hB := HB11.out.trans (hB3.mono HB11.out.size)
 have hs1 : (w.alloc (.cells #[.int .i64 0, .slice none 0 0, .slice none 0 0] 51)).heap.size = w.heap.size + 1 := by simp
 rw [hs1] at hN
 have HN := Lib.hid hN
 have HB := Lib.hid hB
 have HB3 := Lib.hid hb3
 have a0 := Lib.cell_of_heap hb3 0
 have a1 := Lib.cell_of_heap hb3 1
 have a2 := Lib.cell_of_heap hb3 2
 have f0 := Lib.frozen_of_heap hb3 0
 have f1 := Lib.frozen_of_heap hb3 1
 have f2 := Lib.frozen_of_heap hb3 2
 generalize hk : (intT x).f1.length = k1 at hN ⊢
 have hk2 : (intT x).f2.length = 0 := rfl
 rw [hk2]
 have HK := Lib.hid hk
 clear hN hB hb3 hB3 hnn p0 p1 hpn hpe HINT HB00 HB11 hs1 hk hv1 hv2 hk2
 go_wp2
 obtain ⟨z, hNF, hF⟩ := clo_out (r := intT x) HB3.out HB.out (Nat.lt_succ_self _) HN.out k1 0 HK.out rfl _ rfl
 have e2 : (intT x).f0 = 2 := rfl
 rw [e2] at z hNF hF ⊢
 generalize ((w3.setCell ⟨w.heap.size, 0, none⟩ (.int .i64 2)).setCell ⟨w.heap.size, 1, none⟩ (.slice A1 k1 c1)).setCell ⟨w.heap.size, 2, none⟩ (.slice A2 0 c2) = w5 at z hNF hF ⊢
 have z0 := Lib.cell_of_heap z 0
 have z1 := Lib.cell_of_heap z 1
 have z2 := Lib.cell_of_heap z 2
 refine bodyPost_ret (v := .tuple #[.agg #[.int .i64 2, .slice A1 k1 c1, .slice A2 0 c2], .int .i64 0]) (by simp [results, Tryz.results127, go_sem, z0, z1, z2]) rfl ?_
 exact ⟨_, _, rfl, hNF, hF⟩

/-- The bytes of a great number's element. -/
def greatP (n : T) : Option (List Int) := if n.f2 = [] ∧ sameB (bigT n.f1) n = true then some (stripZ n.f1) else none
def GreatPost (w : World) (n : T) (e : Ending) (w' : World) : Prop := ∃ A l c x, e = .returned (.tuple #[.slice A (List.length l) c, .int .i64 x]) ∧ ((x = 0 ∧ greatP n = some l) ∨ (x = 2 ∧ greatP n = none ∧ l = [])) ∧ (Kd.int .u8).R 5 w' w.heap.size (fun _ => True) (.slice A l.length c) l ∧ Below w.heap.size w w'
theorem bigT_strip (l : List Int) : bigT (stripZ l) = bigT l := by unfold bigT; rw [stripZ_twice]

set_option maxHeartbeats 4000000 in
set_option maxRecDepth 100000 in
theorem great_walk (n : T) (hv : ∀ v ∈ n.f1, 0 ≤ v ∧ v < 256) (hl : n.f1.length ≤ 500000) (A1 : Option Addr) (c1 : Nat) (A2 : Option Addr) (c2 : Nat) (w : World) (hn : NodeAt w n A1 c1 A2 c2) :
 Calls Tryz.prog 86 #[.agg #[.int .i64 n.f0, .slice A1 n.f1.length c1, .slice A2 n.f2.length c2]] w (GreatPost w n) := by
 have hmf : ∀ (fn : Fn) (first cap : Array Value) (w : World), (Instr.makeFunc fn first cap).run Tryz.prog w = .ok (.func fn first cap) w := fun _ _ _ _ => rfl
 have hb0 : (w.alloc (.cells #[.int .i64 n.f0, .slice A1 n.f1.length c1, .slice A2 n.f2.length c2] 51)).heap[w.heap.size]? = some (.cells #[.int .i64 n.f0, .slice A1 n.f1.length c1, .slice A2 n.f2.length c2] 51 (0, 0)) := heap_alloc_new w _
 have hB1 : Below w.heap.size w (w.alloc (.cells #[.int .i64 n.f0, .slice A1 n.f1.length c1, .slice A2 n.f2.length c2] 51)) := (Below.refl _ _).alloc (Nat.le_refl _) _
 have HN := Lib.hid (fun w' (hB : Below w.heap.size w w') => hn.below hB)
 have HTRIM := Lib.hid (trim_walk A1 c1 n.f1 _ (hn.below hB1).1 hn.2.1 (by omega))
 have hsl := stripZ_len n.f1
 have hsv : ∀ x ∈ stripZ n.f1, 0 ≤ x ∧ x < 256 := fun x hx => hv x (stripZ_mem n.f1 x hx)
 have HBT := Lib.hid (bigT_strip n.f1)
 generalize hPP : GreatPost w n = PP
 have HPP := Lib.hid hPP
 have HSV := Lib.hid (And.intro hsv hsl)
 have HB0 := Lib.hid hb0
 have HB1 := Lib.hid hB1
 have a1 := Lib.cell_of_heap hb0 1
 clear hPP hsv hb0 hB1 hv
 go_enter Tryz.func86, Tryz.ntmps86
 go_wp2_with (fail)
 refine HTRIM.out.mono ?_
 rintro e w2 ⟨A3, c3, rfl, hr2, hc2, hB2⟩
 have HB2 := Lib.hid (HB1.out.trans (hB2.mono HB1.out.size))
 have HX2 := Lib.hid ((hB2.block _ (heap_lt HB0.out)).trans HB0.out)
 have HCL := Lib.hid (clone_walk A3 c3 (stripZ n.f1) w2 (reads_of_C hr2) hc2 (by omega))
 clear hr2 hc2 hB2 HTRIM HB0 HB1 a1
 go_wp2_with (fail)
 refine HCL.out.mono ?_
 rintro e w3 ⟨A4, c4, rfl, ho3, hB3⟩
 have hx3 := (hB3.block _ (heap_lt HX2.out)).trans HX2.out
 have hBw3 := HB2.out.trans (hB3.mono HB2.out.size)
 generalize hs : stripZ n.f1 = s at HSV HBT ho3 ⊢
 have hal : Below w3.heap.size w3 (w3.alloc (.cells #[.slice A4 s.length c4] 29)) := (Below.refl _ _).alloc (Nat.le_refl _) _
 have hx4 := (hal.block _ (heap_lt hx3)).trans hx3
 have hp4 : (w3.alloc (.cells #[.slice A4 s.length c4] 29)).heap[w3.heap.size]? = some (.cells #[.slice A4 s.length c4] 29 (0, 0)) := heap_alloc_new w3 _
 have hBw4 := hBw3.trans (hal.mono hBw3.size)
 have ho4 := Kd.R_below ho3 hal
 obtain ⟨_, _, f1, g1, k1⟩ := Kd.R_reads ho4
 injection f1 with f1 _ f1'
 subst f1 f1'
 have HJ := Lib.hid (just_B (.slice A4 s.length c4) (decide (n.f2 = [])) n A1 c1 A2 c2 w3.heap.size _ (HN.out _ hBw4) (bigT s) 0 (fun w1 hB => great1_walk w3.heap.size A4 c4 s w1 _ ((hB.block _ (heap_lt hp4)).trans hp4) (Kd.C_below k1 hB) g1 HSV.out.1 (by have := HSV.out.2; omega)))
 have HO4 := Lib.hid (And.intro ho4 (And.intro hBw4 hBw3.size))
 have HS := Lib.hid (And.intro hs HB2.out.size)
 have e0 := Lib.cell_of_heap hx4 0
 have e1 := Lib.cell_of_heap hx4 1
 have e2 := Lib.cell_of_heap hx4 2
 have hlt : (w.heap.size = w3.heap.size) = False := eq_false (by have := heap_lt hx3; omega)
 have q0 := Lib.cell_of_heap hp4 0
 have hdl : decide (n.f2 = []) = ((n.f2.length : Int) == 0) := by
  cases n.f2 with
  | nil => rfl
  | cons x l => rw [decide_eq_false (by simp)]; symm; exact beq_eq_false_iff_ne.2 (by simp; omega)
 have HDL := Lib.hid hdl
 rw [hdl] at HJ
 clear hx3 hBw3 hal hx4 hp4 hBw4 ho3 ho4 g1 k1 hB3 HCL HX2 HB2 hs hdl hsl
 go_wp2_with (fail)
 refine HJ.out.mono ?_
 rintro e w6 ⟨rfl, hB6⟩
 have hPP := HPP.out
 obtain ⟨hs, hsz⟩ := HS.out
 obtain ⟨ho4, hBw4, hsz3⟩ := HO4.out
 rw [← HDL.out, HBT.out]
 have hBf := hBw4.trans (hB6.mono hBw4.size)
 by_cases hc : n.f2 = [] ∧ sameB (bigT n.f1) n = true
 ·rw [if_pos (by first | exact ⟨decide_eq_true hc.1, rfl, hc.2⟩ | exact ⟨decide_eq_true hc.1, trivial, hc.2⟩ | simp [hc.1, hc.2])]
  have HC := Lib.hid hc
  have HF := Lib.hid (And.intro (Kd.R_below ho4 hB6) hBf)
  clear hc hs ho4 hBw4 hBf hB6 hPP HJ HO4 HSV HBT HDL HN
  go_wp2
  have hPP := HPP.out
  subst hPP
  exact ⟨A4, s, c4, 0, rfl, .inl ⟨rfl, by unfold greatP; rw [if_pos HC.out, HS.out.1]⟩, Kd.R_lower HF.out.1 (by omega), HF.out.2⟩
 ·rw [if_neg (fun h => hc ⟨of_decide_eq_true h.1, h.2.2⟩)]
  have HC := Lib.hid hc
  have HF := Lib.hid hBf
  clear hc hs ho4 hBw4 hBf hB6 hPP HJ HO4 HSV HBT HDL HN
  go_wp2
  have hPP := HPP.out
  subst hPP
  exact ⟨none, [], 0, 2, rfl, .inr ⟨rfl, by unfold greatP; rw [if_neg HC.out], rfl⟩, Kd.R_nil _ _ _ _ _, HF.out⟩

/-- The number of an element. -/
def uintP (n : T) : Option Int := match numP n.f1 with
 | none => none
 | some x => if sameB (intT x) n = true then some x else none
def UintPost (w : World) (n : T) (e : Ending) (w' : World) : Prop := (e = match uintP n with
 | some x => .returned (.tuple #[.int .u64 x, .int .i64 0])
 | none => .returned (.tuple #[.int .u64 0, .int .i64 2])) ∧ Below w.heap.size w w'
theorem numP_range : ∀ (l : List Int) (x : Int), (∀ v ∈ l, 0 ≤ v ∧ v < 256) → numP l = some x → 0 ≤ x ∧ x < 18446744073709551616
 | [], x, _, h => by simp [numP] at h; omega
 | a :: l, x, hv, h => by
  rw [numP] at h
  by_cases c : l.length + 1 ≤ 8
  ·rw [if_pos c] at h
   injection h with h
   have hb := numF_bound 8 (a :: l) hv
   rw [List.take_of_length_le (by simpa using c), h] at hb
   exact hb
  ·rw [if_neg c] at h
   by_cases c2 : a = 0
   ·rw [if_pos c2] at h
    exact numP_range l x (fun v hm => hv v (List.mem_cons_of_mem _ hm)) h
   ·rw [if_neg c2] at h; cases h

set_option maxHeartbeats 4000000 in
set_option maxRecDepth 100000 in
theorem uint_walk (n : T) (hv : ∀ v ∈ n.f1, 0 ≤ v ∧ v < 256) (hl : n.f1.length ≤ 500000) (A1 : Option Addr) (c1 : Nat) (A2 : Option Addr) (c2 : Nat) (w : World) (hn : NodeAt w n A1 c1 A2 c2) :
 Calls Tryz.prog 87 #[.agg #[.int .i64 n.f0, .slice A1 n.f1.length c1, .slice A2 n.f2.length c2]] w (UintPost w n) := by
 have hmf : ∀ (fn : Fn) (first cap : Array Value) (w : World), (Instr.makeFunc fn first cap).run Tryz.prog w = .ok (.func fn first cap) w := fun _ _ _ _ => rfl
 have hb0 : (w.alloc (.cells #[.int .i64 n.f0, .slice A1 n.f1.length c1, .slice A2 n.f2.length c2] 51)).heap[w.heap.size]? = some (.cells #[.int .i64 n.f0, .slice A1 n.f1.length c1, .slice A2 n.f2.length c2] 51 (0, 0)) := heap_alloc_new w _
 have hB1 : Below w.heap.size w (w.alloc (.cells #[.int .i64 n.f0, .slice A1 n.f1.length c1, .slice A2 n.f2.length c2] 51)) := (Below.refl _ _).alloc (Nat.le_refl _) _
 have HN := Lib.hid (fun w' (hB : Below w.heap.size w w') => hn.below hB)
 have HNUM := Lib.hid (num_walk A1 c1 n.f1 _ (reads_of_C (hn.below hB1).1) hn.2.1 (by omega) hv)
 generalize hPP : UintPost w n = PP
 have HPP := Lib.hid hPP
 have HV := Lib.hid (fun x h => numP_range n.f1 x hv h)
 have HB0 := Lib.hid hb0
 have HB1 := Lib.hid hB1
 have a1 := Lib.cell_of_heap hb0 1
 clear hPP hb0 hB1 hv
 go_enter Tryz.func87, Tryz.ntmps87
 go_wp2_with (fail)
 refine HNUM.out.mono ?_
 rintro e w2 ⟨he, rfl⟩
 clear HNUM a1
 generalize hW : w.alloc (.cells #[.int .i64 n.f0, .slice A1 n.f1.length c1, .slice A2 n.f2.length c2] 51) = w2 at HB0 HB1 ⊢
 have hsz2 : w.heap.size < w2.heap.size := heap_lt HB0.out
 clear hW
 have hne : (w.heap.size = w2.heap.size) = False := eq_false (by omega)
 obtain ⟨x, b, rfl, hxb, h0, h1⟩ : ∃ (x : Int) (b : Bool), e = .returned (.tuple #[.int .u64 x, .bool b]) ∧ ((b = true ∧ numP n.f1 = some x) ∨ (b = false ∧ numP n.f1 = none)) ∧ 0 ≤ x ∧ x < 18446744073709551616 := by
  cases hq : numP n.f1 with
  | none => rw [hq] at he; exact ⟨0, false, he, .inr ⟨rfl, rfl⟩, by decide, by decide⟩
  | some x => rw [hq] at he; exact ⟨x, true, he, .inl ⟨rfl, rfl⟩, (HV.out x hq).1, (HV.out x hq).2⟩
 clear he
 have hal : Below w2.heap.size w2 (w2.alloc (.cells #[.int .u64 x] 109)) := (Below.refl _ _).alloc (Nat.le_refl _) _
 have hx4 := (hal.block _ (heap_lt HB0.out)).trans HB0.out
 have hp4 : (w2.alloc (.cells #[.int .u64 x] 109)).heap[w2.heap.size]? = some (.cells #[.int .u64 x] 109 (0, 0)) := heap_alloc_new w2 _
 have hBw4 := HB1.out.trans (hal.mono HB1.out.size)
 have HJ := Lib.hid (just_U (.int .u64 x) b n A1 c1 A2 c2 w2.heap.size _ (HN.out _ hBw4) (intT x) 0 (fun w1 hB => uint1_walk w2.heap.size x w1 _ ((hB.block _ (heap_lt hp4)).trans hp4) h0 h1))
 have HO4 := Lib.hid hBw4
 have HXB := Lib.hid hxb
 have e0 := Lib.cell_of_heap hx4 0
 have e1 := Lib.cell_of_heap hx4 1
 have e2 := Lib.cell_of_heap hx4 2
 have q0 := Lib.cell_of_heap hp4 0
 clear hx4 hp4 hBw4 hal hxb h0 h1 HV
 go_wp2_with (fail)
 refine HJ.out.mono ?_
 rintro e w6 ⟨rfl, hB6⟩
 have hBf := HO4.out.trans (hB6.mono HO4.out.size)
 by_cases hc : b = true ∧ sameB (intT x) n = true
 ·rw [if_pos (by first | exact ⟨hc.1, rfl, hc.2⟩ | exact ⟨hc.1, trivial, hc.2⟩ | simp [hc.1, hc.2])]
  have HC := Lib.hid hc
  have HF := Lib.hid hBf
  clear hc hBf hB6 HJ HO4 HN
  go_wp2
  have hPP := HPP.out
  subst hPP
  have hu : uintP n = some x := by
   unfold uintP
   rcases HXB.out with ⟨_, h⟩ | ⟨h, _⟩
   ·rw [h]; simp only; rw [if_pos HC.out.2]
   ·rw [HC.out.1] at h; cases h
  exact ⟨by rw [hu]; rfl, HF.out⟩
 ·rw [if_neg (fun h => hc ⟨h.1, h.2.2⟩)]
  have HC := Lib.hid hc
  have HF := Lib.hid hBf
  clear hc hBf hB6 HJ HO4 HN
  go_wp2
  have hPP := HPP.out
  subst hPP
  have hu : uintP n = none := by
   unfold uintP
   rcases HXB.out with ⟨hb, h⟩ | ⟨_, h⟩
   ·rw [h]; simp only; rw [if_neg (fun h2 => HC.out ⟨hb, h2⟩)]
   ·rw [h]
  exact ⟨by rw [hu]; rfl, HF.out⟩

end Go.Proofs.YtcbmjmphicfgpaaGreatDoor.Tlv
end

section
set_option linter.unusedVariables false
set_option linter.unusedSimpArgs false
namespace Go.Proofs.YtcbmjmphicfgpaaGreatDoor.Tlv
open Go.RowKit Go.Proofs.YtcbmjmphicfgpaaGreatDoorW.PrintWords Go.Proofs.YtcbmjmphicfgpaaGreatDoorW.PrintLast Go.Proofs.YtcbmjmphicfgpaaGreatDoorW.PrintMore Go.Proofs.YtcbmjmphicfgpaaGreatDoor.PT

mutual
def wT : T → Int
 | ⟨_, body, kids⟩ => 1 + (body.length : Int) + wL kids
def wL : List T → Int
 | [] => 0
 | t :: l => wT t + wL l
end
mutual
theorem wT_pos : ∀ t : T, 1 ≤ wT t
 | ⟨_, body, kids⟩ => by rw [wT]; have := wL_pos kids; omega
theorem wL_pos : ∀ l : List T, 0 ≤ wL l
 | [] => by decide
 | t :: l => by rw [wL]; have := wT_pos t; have := wL_pos l; omega
end
theorem wL_mem : ∀ (l : List T) (t : T), t ∈ l → wT t ≤ wL l
 | [], _, h => by cases h
 | u :: l, t, h => by
  rw [wL]
  have := wT_pos u
  have := wL_pos l
  rcases List.mem_cons.1 h with rfl | h
  ·omega
  ·have := wL_mem l t h; omega
mutual
theorem size_wT : ∀ t : T, sizeT t ≤ 5 * wT t
 | ⟨tag, body, kids⟩ => by
  rw [sizeT, wT]
  have h := size_wL kids
  have h1 := headLen_pos (sizeL kids)
  have h2 := headLen_pos body.length
  have h3 := wL_pos kids
  split <;> omega
theorem size_wL : ∀ l : List T, sizeL l ≤ 5 * wL l
 | [] => by decide
 | t :: l => by rw [sizeL, wL]; have := size_wT t; have := size_wL l; omega
end
mutual
theorem wT_size : ∀ t : T, rightT t = true → wT t ≤ sizeT t
 | ⟨tag, body, kids⟩, h => by
  rw [rightT, Bool.and_eq_true, Bool.and_eq_true] at h
  have h1 := wL_size kids h.2
  have h2 := headLen_pos (sizeL kids)
  have h3 := headLen_pos body.length
  have h4 := wL_pos kids
  rw [sizeT, wT]
  by_cases hH : holdsB tag = true
  ·rw [if_pos hH]
   rw [if_pos hH] at h
   have : body = [] := of_decide_eq_true h.1.2
   subst this
   simp only [List.length_nil]
   omega
  ·rw [if_neg hH]
   rw [if_neg hH] at h
   have : kids = [] := of_decide_eq_true h.1.2
   subst this
   rw [wL]
   omega
theorem wL_size : ∀ l : List T, rightL l = true → wL l ≤ sizeL l
 | [], _ => by rw [wL, sizeL]; exact Int.le_refl _
 | t :: l, h => by
  rw [rightL, Bool.and_eq_true] at h
  have h1 := wT_size t h.1
  have h2 := wL_size l h.2
  rw [wL, sizeL]
  omega
end
theorem T_eta : ∀ t : T, (⟨t.f0, t.f1, t.f2⟩ : T) = t := fun ⟨_, _, _⟩ => rfl

end Go.Proofs.YtcbmjmphicfgpaaGreatDoor.Tlv
end

section
set_option linter.unusedVariables false
set_option linter.unusedSimpArgs false
namespace Go.Proofs.YtcbmjmphicfgpaaGreatDoor.Tlv
open Go.RowKit Go.Proofs.YtcbmjmphicfgpaaGreatDoorW.PrintWords Go.Proofs.YtcbmjmphicfgpaaGreatDoorW.PrintLast Go.Proofs.YtcbmjmphicfgpaaGreatDoorW.PrintMore Go.Proofs.YtcbmjmphicfgpaaGreatDoor.PT

/-- A key's own element. -/
def ownT (l : List Int) (E : Int) : T := ⟨48, [], [bigT l, intT E]⟩
def ownB (l : List Int) (E : Int) : List Int := (resW (writeP (ownT l E))).1
theorem wT_big (l : List Int) : wT (bigT l) ≤ (l.length : Int) + 2 := by
 unfold bigT
 rw [wT, wL]
 have h1 := bigB_len (stripZ l)
 have h2 := stripZ_len l
 omega
theorem leastP_len (E : Int) (h0 : 0 ≤ E) (h1 : E < 18446744073709551616) : (leastP E).length ≤ 8 ∧ ∀ v ∈ leastP E, 0 ≤ v ∧ v < 256 := by
 obtain ⟨m, m1, m2, hm, _⟩ := least_p E h0 h1
 have hb := bE_byte m E
 rw [hm]
 exact ⟨by rw [hb.2]; exact m2, hb.1⟩
theorem wT_own (l : List Int) (E : Int) (hl : l.length ≤ 100000) (h0 : 0 ≤ E) (h1 : E < 4294967296) : wT (ownT l E) ≤ 101000 := by
 have h := wT_big l
 have h2 : wT (intT E) ≤ ((leastP E).length : Int) + 2 := wT_big _
 have h3 := (leastP_len E h0 (by omega)).1
 unfold ownT
 rw [wT, wL, wL, wL]
 simp only [List.length_nil]
 omega
set_option maxRecDepth 100000 in
/-- What holds ahead of Write. -/
theorem own_tail (l : List Int) (E : Int) (hl : l.length ≤ 100000) (h0 : 0 ≤ E) (h1 : E < 4294967296) (A : Option Addr) (c : Nat) (w w2 w3 w4 : World) (tk : TypeId) (A1 : Option Addr) (c1 : Nat) (A2 : Option Addr) (c2 : Nat) (B1 : Option Addr) (d1 : Nat) (B2 : Option Addr) (d2 : Nat)
 (hk : w2.heap[w.heap.size]? = some (.cells #[.slice A l.length c, .int .u32 E] tk (0, 0))) (hB : Below w.heap.size w w2)
 (hn : NodeR w3 w2.heap.size w3.heap.size (bigT l) (.slice A1 (bigT l).f1.length c1) (.slice A2 0 c2)) (hB3 : Below w2.heap.size w2 w3)
 (hm : NodeR w4 w3.heap.size w4.heap.size (intT E) (.slice B1 (intT E).f1.length d1) (.slice B2 0 d2)) (hB4 : Below w3.heap.size w3 w4) :
 (w4.cell? ⟨w.heap.size, 0, none⟩ = some (.slice A l.length c) ∧ w4.cell? ⟨w.heap.size, 1, none⟩ = some (.int .u32 E)) ∧
 (∀ ob : Obj, ob = .cells #[.int .i64 2, .slice A1 (bigT l).f1.length c1, .slice A2 0 c2, .int .i64 2, .slice B1 (intT E).f1.length d1, .slice B2 0 d2] 51 (0, 0) →
  ((w4.alloc ob).cell? ⟨w.heap.size, 0, none⟩ = some (.slice A l.length c) ∧ (w4.alloc ob).cell? ⟨w.heap.size, 1, none⟩ = some (.int .u32 E)) ∧
  Calls Tryz.prog 30 #[.agg #[.int .i64 48, .slice none 0 0, .slice (some ⟨w4.heap.size, 0, none⟩) 2 2]] (w4.alloc ob) fun e w5 => ∃ X lx cx x, e = .returned (.tuple #[.slice X (List.length lx) cx, .int .i64 x]) ∧ (lx = ownB l E ∧ (Kd.int .u8).R 5 w5 w.heap.size (fun _ => True) (.slice X lx.length cx) lx ∧ Below w.heap.size w w5) ∧
   (w5.cell? ⟨w.heap.size, 0, none⟩ = some (.slice A l.length c) ∧ w5.cell? ⟨w.heap.size, 1, none⟩ = some (.int .u32 E))) := by
 have hB24 : Below w2.heap.size w2 w4 := hB3.trans (hB4.mono hB3.size)
 have hk4 := (hB24.block _ (heap_lt hk)).trans hk
 refine ⟨⟨Lib.cell_of_heap hk4 0, Lib.cell_of_heap hk4 1⟩, fun ob hob => ?_⟩
 have hk5 := (Below.heap_alloc w4 ob _ (heap_lt hk4)).trans hk4
 refine ⟨⟨Lib.cell_of_heap hk5 0, Lib.cell_of_heap hk5 1⟩, ?_⟩
 have h6 : (w4.alloc ob).heap[w4.heap.size]? = some ob := heap_alloc_new w4 _
 have hBB : Below w4.heap.size w4 (w4.alloc ob) := (Below.refl _ _).alloc (Nat.le_refl _) _
 have hBw4 := hB.trans (hB24.mono hB.size)
 have hBw : Below w.heap.size w (w4.alloc ob) := hBw4.alloc hBw4.size ob
 have hn4 := ((hn.below hB4).at (n := bigT l)).below hBB
 have hm4 := (hm.at (n := intT E)).below hBB
 have hkk : k51.C (w4.alloc ob) (some ⟨w4.heap.size, 0, none⟩) 2 [bigT l, intT E] :=
  C_row (cs := [.int .i64 2, .slice A1 (bigT l).f1.length c1, .slice A2 0 c2, .int .i64 2, .slice B1 (intT E).f1.length d1, .slice B2 0 d2]) (by rw [h6, hob]) (KReps_two (NodeAt.K (n := bigT l) hn4) (NodeAt.K (n := intT E) hm4)) (by simp)
 have hw := wT_own l E hl h0 h1
 refine (write_walk (ownT l E) (fun _ => by have := size_wT (ownT l E); omega) none 0 (some ⟨w4.heap.size, 0, none⟩) 2 (w4.alloc ob) ⟨C_nil _ _ _, Nat.le_refl _, hkk, Nat.le_refl _⟩).mono ?_
 intro e w5 hp
 obtain ⟨X, lx, cx, x, rfl, hres, hX, hB5⟩ := (WritePost.R hp)
 have hk6 := (hB5.block _ (heap_lt hk5)).trans hk5
 exact ⟨X, lx, cx, x, rfl, ⟨by unfold ownB; rw [hres], Kd.R_lower hX hBw.size, hBw.trans (hB5.mono hBw.size)⟩, Lib.cell_of_heap hk6 0, Lib.cell_of_heap hk6 1⟩
def OwnPost (w : World) (l : List Int) (E : Int) (e : Ending) (w' : World) : Prop := ∃ A b c, e = .returned (.slice A (List.length b) c) ∧ b = ownB l E ∧ (Kd.int .u8).R 5 w' w.heap.size (fun _ => True) (.slice A b.length c) b ∧ Below w.heap.size w w'

set_option maxHeartbeats 4000000 in
set_option maxRecDepth 100000 in
theorem own_walk (l : List Int) (E : Int) (hl : l.length ≤ 100000) (hv : ∀ x ∈ l, 0 ≤ x ∧ x < 256) (h0 : 0 ≤ E) (h1 : E < 4294967296) (A : Option Addr) (c : Nat) (w : World) (hr : (Kd.int .u8).C w A l.length l) (hc : l.length ≤ c) :
 Calls Tryz.prog 60 #[.agg #[.slice A l.length c, .int .u32 E]] w (OwnPost w l E) := by
 have hbox : (w.alloc (.cells #[.slice A l.length c, .int .u32 E] 32)).drew.heap[w.heap.size]? = some (.cells #[.slice A l.length c, .int .u32 E] 32 (0, 0)) := heap_alloc_new w _
 have hB1 : Below w.heap.size w (w.alloc (.cells #[.slice A l.length c, .int .u32 E] 32)).drew := ((Below.refl _ _).alloc (Nat.le_refl _) _).drew
 have HBIG := Lib.hid (big_walk A c l _ (Kd.C_below hr hB1) hc hv (by omega))
 have HINT := Lib.hid (fun w3 => scalar_Int.calls 20 E 2 (bigB (stripZ (leastP E))) [] w3 (int_f E h0 (by omega)))
 have HTAIL := Lib.hid (fun w3 w4 A1 c1 A2 c2 B1 d1 B2 d2 => own_tail l E hl h0 h1 A c w _ w3 w4 _ A1 c1 A2 c2 B1 d1 B2 d2 hbox hB1)
 have HH := Lib.hid (And.intro (Lib.cell_of_heap hbox 0) (Lib.cell_of_heap hbox 1))
 have HKEEP := Lib.hid (fun w3 (hB : Below _ _ w3) => (And.intro (Lib.cell_of_heap ((hB.block _ (heap_lt hbox)).trans hbox) 0) (Lib.cell_of_heap ((hB.block _ (heap_lt hbox)).trans hbox) 1)))
 have hwr : IntKind.u64.wrap E = E := by rw [show ∀ n : Int, IntKind.u64.wrap n = n % 18446744073709551616 from fun n => by simp [IntKind.wrap, IntKind.bits, IntKind.signed]]; omega
 generalize hPP : OwnPost w l E = PP
 have HPP := Lib.hid hPP
 have eb : (bigT l).f0 = 2 := rfl
 clear hbox hB1 hr hc hv hl hPP
 go_enter Tryz.func60, Tryz.ntmps60
 go_wp2
 refine start_ (n := 15) (S := fun w' => w'.cell? ⟨w.heap.size, 0, none⟩ = some (.slice A l.length c) ∧ w'.cell? ⟨w.heap.size, 1, none⟩ = some (.int .u32 E)) (ds := []) #[false, false, false, false, false, false, false, false, false, false, false, false, false, false, false] (by kernel_rfl) rfl rfl HH.out (fun hHeld => ?_)
 refine pure_ (i := 0) (N := some 6) (v := ?_) (a' := ?_) #[true, false, false, false, false, false, false, false, false, false, false, false, false, false, false] rfl rfl (by kernel_rfl) (fun _ _ _ h => h) (Or.inl ⟨by rfl, ?_⟩) ?_ ?_
 rotate_left
 ·intro w'
  go_simp
  with_reducible rfl
 rotate_left
 ·simp only [Act.put, List.setIfInBounds_toArray, List.set_cons_zero, List.set_cons_succ, i64_w, i32_w]
  rfl
 refine take_ (i := 1) (N := some 7) (v := ?_) (a' := ?_) #[true, true, false, false, false, false, false, false, false, false, false, false, false, false, false] rfl rfl (by kernel_rfl) (fun _ _ _ h => h) (Or.inl ⟨by rfl, ?_⟩) hHeld ?_ ?_
 rotate_left
 ·rintro w' ⟨s0, s1⟩
  go_simp
  with_reducible rfl
 rotate_left
 ·simp only [Act.put, List.setIfInBounds_toArray, List.set_cons_zero, List.set_cons_succ, i64_w, i32_w]
  rfl
 refine pure_ (i := 3) (N := some 9) (v := ?_) (a' := ?_) #[true, true, false, true, false, false, false, false, false, false, false, false, false, false, false] rfl rfl (by kernel_rfl) (fun _ _ _ h => h) (Or.inl ⟨by rfl, ?_⟩) ?_ ?_
 rotate_left
 ·intro w'
  go_simp
  with_reducible rfl
 rotate_left
 ·simp only [Act.put, List.setIfInBounds_toArray, List.set_cons_zero, List.set_cons_succ, i64_w, i32_w]
  rfl
 refine take_ (i := 4) (N := some 10) (v := ?_) (a' := ?_) #[true, true, false, true, true, false, false, false, false, false, false, false, false, false, false] rfl rfl (by kernel_rfl) (fun _ _ _ h => h) (Or.inl ⟨by rfl, ?_⟩) hHeld ?_ ?_
 rotate_left
 ·rintro w' ⟨s0, s1⟩
  go_simp
  with_reducible rfl
 rotate_left
 ·simp only [Act.put, List.setIfInBounds_toArray, List.set_cons_zero, List.set_cons_succ, i64_w, i32_w]
  rfl
 refine pure_ (i := 5) (N := some 11) (v := ?_) (a' := ?_) #[true, true, false, true, true, true, false, false, false, false, false, false, false, false, false] rfl rfl (by kernel_rfl) (fun _ _ _ h => h) (Or.inl ⟨by rfl, ?_⟩) ?_ ?_
 rotate_left
 ·intro w'
  go_simp
  with_reducible rfl
 rotate_left
 ·simp only [Act.put, List.setIfInBounds_toArray, List.set_cons_zero, List.set_cons_succ, i64_w, i32_w]
  rfl
 refine one_ (i := 2) (N := some 8) #[true, true, true, true, true, true, false, false, false, false, false, false, false, false, false] rfl rfl (by kernel_rfl) (by decide) (fun K hK => ?_)
 refine goes_ Tryz.func103 (by kernel_rfl) rfl #[.slice A l.length c] (by rfl) rfl rfl (by (try simp only [List.map_toArray, List.map_cons, List.map_nil]); first | done | rfl) ?_
 refine HBIG.out.mono ?_
 rintro e w3 ⟨v1, rfl, hn3, hb3⟩
 refine ⟨_, rfl, ?_⟩
 obtain ⟨A1, c1, rfl, _, _⟩ := Kd.R_reads hn3.b
 have HN3 := Lib.hid hn3
 have HB3 := Lib.hid hb3
 clear hn3 hb3
 refine hK.out _ _ (HKEEP.out w3 HB3.out) (fun hHeld => ?_)
 clear hK K
 refine norm_ (a' := ?_) ?_ ?_
 rotate_left
 ·show Act.put _ (some 8) _ = _
  simp only [Act.put, List.setIfInBounds_toArray, List.set_cons_zero, List.set_cons_succ, i64_w, i32_w]
  rfl
 refine one_ (i := 6) (N := some 12) #[true, true, true, true, true, true, true, false, false, false, false, false, false, false, false] rfl rfl (by kernel_rfl) (by decide) (fun K hK => ?_)
 refine goes_ Tryz.func104 (by kernel_rfl) rfl #[.int .u64 E] (by rfl) rfl rfl (by (try simp only [List.map_toArray, List.map_cons, List.map_nil]); first | done | rfl) ?_
 refine (HINT.out w3).mono ?_
 rintro e w4 ⟨v1, v2, rfl, hv1, hv2, hb4⟩
 refine ⟨_, rfl, ?_⟩
 have hm4 := NodeR.of (n := intT E) hv1 hv2
 obtain ⟨B1, d1, rfl, _, _⟩ := Kd.R_reads hm4.b
 obtain ⟨B2, d2, rfl⟩ := Kd.R_slice hm4.k
 have HF := Lib.hid (HTAIL.out w3 w4 A1 c1 none 0 B1 d1 B2 d2 HN3.out HB3.out hm4 hb4)
 clear hv1 hv2 hb4 hm4
 refine hK.out _ _ HF.out.1 (fun hHeld => ?_)
 clear hK K
 refine norm_ (a' := ?_) ?_ ?_
 rotate_left
 ·show Act.put _ (some 12) _ = _
  simp only [Act.put, List.setIfInBounds_toArray, List.set_cons_zero, List.set_cons_succ, i64_w, i32_w]
  rfl
 refine one_ (i := 7) (N := some 13) #[true, true, true, true, true, true, true, true, false, false, false, false, false, false, false] rfl rfl (by kernel_rfl) (by decide) (fun K hK => ?_)
 refine event_step (by rfl) (v := .slice (some ⟨w4.heap.size, 0, none⟩) 2 2) (w1 := w4.alloc (.cells #[.int .i64 2, .slice A1 (bigT l).f1.length c1, .slice none 0 0, .int .i64 2, .slice B1 (intT E).f1.length d1, .slice B2 0 d2] 51)) (by go_simp; try rfl) ?_
 have HG := Lib.hid (HF.out.2 _ rfl)
 refine hK.out _ _ HG.out.1 (fun hHeld => ?_)
 clear hK K
 refine norm_ (a' := ?_) ?_ ?_
 rotate_left
 ·show Act.put _ (some 13) _ = _
  simp only [Act.put, List.setIfInBounds_toArray, List.set_cons_zero, List.set_cons_succ, i64_w, i32_w]
  rfl
 refine pure_ (i := 8) (N := some 14) (v := ?_) (a' := ?_) #[true, true, true, true, true, true, true, true, true, false, false, false, false, false, false] rfl rfl (by kernel_rfl) (fun _ _ _ h => h) (Or.inl ⟨by rfl, ?_⟩) ?_ ?_
 rotate_left
 ·intro w'
  go_simp
  with_reducible rfl
 rotate_left
 ·simp only [Act.put, List.setIfInBounds_toArray, List.set_cons_zero, List.set_cons_succ, i64_w, i32_w]
  rfl
 refine one_ (i := 9) (N := some 15) #[true, true, true, true, true, true, true, true, true, true, false, false, false, false, false] rfl rfl (by kernel_rfl) (by decide) (fun K hK => ?_)
 refine goes_ Tryz.func30 (by kernel_rfl) rfl #[.agg #[.int .i64 48, .slice none 0 0, .slice (some ⟨w4.heap.size, 0, none⟩) 2 2]] (by rfl) rfl rfl (by (try simp only [List.map_toArray, List.map_cons, List.map_nil]); first | done | rfl) ?_
 refine (HG.out.2).mono ?_
 rintro e w5 ⟨X, lx, cx, x, rfl, hpo, hs5⟩
 have HPO := Lib.hid hpo
 clear hpo
 refine ⟨_, rfl, ?_⟩
 refine hK.out _ _ hs5 (fun hHeld => ?_)
 clear hK K
 refine norm_ (a' := ?_) ?_ ?_
 rotate_left
 ·show Act.put _ (some 15) _ = _
  simp only [Act.put, List.setIfInBounds_toArray, List.set_cons_zero, List.set_cons_succ, i64_w, i32_w]
  rfl
 refine pure_ (i := 10) (N := some 5) (v := ?_) (a' := ?_) #[true, true, true, true, true, true, true, true, true, true, true, false, false, false, false] rfl rfl (by kernel_rfl) (fun _ _ _ h => h) (Or.inl ⟨by rfl, ?_⟩) ?_ ?_
 rotate_left
 ·intro w'
  go_simp
  with_reducible rfl
 rotate_left
 ·simp only [Act.put, List.setIfInBounds_toArray, List.set_cons_zero, List.set_cons_succ, i64_w, i32_w]
  rfl
 refine pure_ (i := 11) (N := some 16) (v := ?_) (a' := ?_) #[true, true, true, true, true, true, true, true, true, true, true, true, false, false, false] rfl rfl (by kernel_rfl) (fun _ _ _ h => h) (Or.inl ⟨by rfl, ?_⟩) ?_ ?_
 rotate_left
 ·intro w'
  go_simp
  with_reducible rfl
 rotate_left
 ·simp only [Act.put, List.setIfInBounds_toArray, List.set_cons_zero, List.set_cons_succ, i64_w, i32_w]
  rfl
 refine pure_ (i := 12) (N := some 17) (v := ?_) (a' := ?_) #[true, true, true, true, true, true, true, true, true, true, true, true, true, false, false] rfl rfl (by kernel_rfl) (fun _ _ _ h => h) (Or.inl ⟨by rfl, ?_⟩) ?_ ?_
 rotate_left
 ·intro w'
  go_simp
  with_reducible rfl
 rotate_left
 ·simp only [Act.put, List.setIfInBounds_toArray, List.set_cons_zero, List.set_cons_succ, i64_w, i32_w]
  rfl
 refine pure_ (i := 13) (N := some 3) (v := ?_) (a' := ?_) #[true, true, true, true, true, true, true, true, true, true, true, true, true, true, false] rfl rfl (by kernel_rfl) (fun _ _ _ h => h) (Or.inl ⟨by rfl, ?_⟩) ?_ ?_
 rotate_left
 ·intro w'
  go_simp
  with_reducible rfl
 rotate_left
 ·simp only [Act.put, List.setIfInBounds_toArray, List.set_cons_zero, List.set_cons_succ, i64_w, i32_w]
  rfl
 refine pure_ (i := 14) (N := some 4) (v := ?_) (a' := ?_) #[true, true, true, true, true, true, true, true, true, true, true, true, true, true, true] rfl rfl (by kernel_rfl) (fun _ _ _ h => h) (Or.inl ⟨by rfl, ?_⟩) ?_ ?_
 rotate_left
 ·intro w'
  go_simp
  with_reducible rfl
 rotate_left
 ·simp only [Act.put, List.setIfInBounds_toArray, List.set_cons_zero, List.set_cons_succ, i64_w, i32_w]
  rfl
 refine done_ (by kernel_rfl) ?_
 go_wp2
 have hPP := HPP.out
 subst hPP
 exact ⟨X, lx, cx, rfl, HPO.out⟩

end Go.Proofs.YtcbmjmphicfgpaaGreatDoor.Tlv
end
