/- Merged by a program of this session (wip/tools/pack.py). -/
import Derived.Test.YtcbmjmphicfgpaaGreatDoorKTalBack3
section
namespace Go.Proofs.YtcbmjmphicfgpaaGreatDoor.PT
open Go.RowKit Go.Proofs.YtcbmjmphicfgpaaGreatDoorW.PrintWords Go.Proofs.YtcbmjmphicfgpaaGreatDoorW.PrintLast Go.Proofs.YtcbmjmphicfgpaaGreatDoorW.PrintMore
attribute [local go_sem] max2_int min2_int max_two min_two max_three min_three max_four min_four   -- for this text's walks alone
set_option linter.unusedVariables false
set_option linter.unusedSimpArgs false

def rsa_Right.f (l0_0 : List Int) (a0_1 : Int) : Option (Bool) := if (l0_0.length : Int) ≥ 62 then (if (l0_0.length : Int) ≤ 512 then (if 0 < (l0_0.length : Int) then (if (rd l0_0 0) = 0 then (some false) else (if 0 ≤ (wrap64 ((l0_0.length : Int) - 1)) then (if (wrap64 ((l0_0.length : Int) - 1)) < (l0_0.length : Int) then (if (Go.bits .and .u8 (rd l0_0 (wrap64 ((l0_0.length : Int) - 1))) 1) = 1 then (if (Go.bits .and .u32 a0_1 1) = 1 then (some (decide (a0_1 ≥ 3))) else (some false)) else (some false)) else (none)) else (none))) else (none)) else (some false)) else (some false)
set_option maxHeartbeats 8000000 in
set_option maxRecDepth 100000 in
theorem rsa_Right.calls (A0_0 : Option Addr) (c0_0 : Nat) (l0_0 : List Int) (a0_1 : Int) (r : Bool) (w : World) (hr0_0 : Kd.C (Kd.int .u8) w A0_0 l0_0.length l0_0) (hc0_0 : l0_0.length ≤ c0_0) (h : rsa_Right.f l0_0 a0_1 = some r) :
 Calls Tryz.prog 57 #[.agg #[.slice A0_0 l0_0.length c0_0, .int .u32 a0_1]] w fun e w' => e = .returned (.bool r) ∧ Below w.heap.size w w' := by
 have hu32 := Tryz.underlying32
 have HR0_0 := Aside0.mk hr0_0
 have HC0_0 := Aside0.mk hc0_0
 clear hr0_0 hc0_0
 have HB := Aside0.mk (Below.refl w.heap.size w)
 have H : (if (l0_0.length : Int) ≥ 62 then (if (l0_0.length : Int) ≤ 512 then (if 0 < (l0_0.length : Int) then (if (rd l0_0 0) = 0 then (some false) else (if 0 ≤ (wrap64 ((l0_0.length : Int) - 1)) then (if (wrap64 ((l0_0.length : Int) - 1)) < (l0_0.length : Int) then (if (Go.bits .and .u8 (rd l0_0 (wrap64 ((l0_0.length : Int) - 1))) 1) = 1 then (if (Go.bits .and .u32 a0_1 1) = 1 then (some (decide (a0_1 ≥ 3))) else (some false)) else (some false)) else (none)) else (none))) else (none)) else (some false)) else (some false)) = some r := h
 clear h
 by_cases c2 : (l0_0.length : Int) ≥ 62
 ·rw [if_pos c2] at H
  have c2b0 : decide (62 ≤ (l0_0.length : Int)) = true := decide_eq_true c2
  have c2b1 : decide (62 ≤ l0_0.length) = true := decide_eq_true (by omega)
  clear c2
  by_cases c3 : (l0_0.length : Int) ≤ 512
  ·rw [if_pos c3] at H
   have c3b0 : decide ((l0_0.length : Int) ≤ 512) = true := decide_eq_true c3
   have c3b1 : decide (l0_0.length ≤ 512) = true := decide_eq_true (by omega)
   clear c3
   by_cases c4 : 0 < (l0_0.length : Int)
   ·rw [if_pos c4] at H
    have c4b0 : decide (0 < (l0_0.length : Int)) = true := decide_eq_true c4
    have c4b1 : decide (0 < l0_0.length) = true := decide_eq_true (by omega)
    clear c4
    by_cases c5 : (rd l0_0 0) = 0
    ·rw [if_pos c5] at H
     have c5b0 : ((rd l0_0 0) == 0) = true := beq_iff_eq.mpr c5
     have c5b1 : ((rd l0_0 0) != 0) = false := bne_eq_false_iff_eq.mpr c5
     clear c5
     obtain rfl := Option.some.inj H
     go_enter Tryz.func57, Tryz.ntmps57
     go_wp2_with (first | ((with_reducible refine gate_dst (N := 1) rfl ?_); refine box_event ?hg (N := 1) ?hd (cs := #[.slice A0_0 l0_0.length c0_0, .int .u32 a0_1]) (t := 32) ?hr ?_; (case hd => rfl); (case hg => rfl); (case hr => first | (go_simp; done) | (go_simp; rfl)); intro gb101 hg w6 hbox hb; have n0_ := Aside0.mk (below_step (by repeat (first | (with_reducible first | exact HB.out | apply below_alloc | apply pw_below_drewN | apply below_drew1) | exact HB.out)) hb); have n1_ := Aside0.mk (hbox); have n2_ := Aside0.mk ((by rw [hg]; exact (below_size (by repeat (first | (with_reducible first | exact HB.out | apply below_alloc | apply pw_below_drewN | apply below_drew1) | exact HB.out))) : w.heap.size ≤ gb101)); have n3_ := Aside0.mk ((by rw [hg]; exact (below_size (by repeat (first | (with_reducible first | exact HB.out | apply below_alloc | apply pw_below_drewN | apply below_drew1) | exact HB.out))) : w.heap.size ≤ gb101)); clear HB; have HB := n0_; have BK101 := n1_; have GW101 := n2_; have GE101 := n3_; clear n0_ n1_ n2_ n3_; clear hb hbox hg; have hcz7_0 : w6.cell? ⟨gb101, 0, none⟩ = some (.slice A0_0 l0_0.length c0_0) := (blk_cell BK101.out 0).trans rfl; have hcz7_1 : w6.cell? ⟨gb101, 1, none⟩ = some (.int .u32 a0_1) := (blk_cell BK101.out 1).trans rfl; have hfz7_0 := blk_frozen BK101.out 0; have hfz7_1 := blk_frozen BK101.out 1; have p102 : 0 ≤ (0 : Int) := (by omega); have q102 : 0 < (l0_0.length : Int) := of_decide_eq_true (by first | (with_reducible assumption) | assumption); obtain ⟨ad102, e102, hx102_0⟩ := Kd.at_int HR0_0.out 0 p102 q102; cases e102; have qi102 : (0 < l0_0.length) = True := eq_true (by omega); (try rw [show ((0 : Int)).toNat = 0 from rfl] at hx102_0); (try rw [Addr.add_zero'] at hx102_0); replace hx102_0 := (HB.out.cell (World.block_lt_of_cell? w _ hx102_0)).trans hx102_0; replace p102 := eq_true p102; replace q102 := eq_true q102))
     go_ret
     exact ⟨by first | rfl | (simp [errW_none, errW_some] <;> rfl) | (simp [*, errW_none, errW_some] <;> rfl), by repeat (first | (with_reducible first | exact HB.out | apply below_alloc | apply pw_below_drewN | apply below_drew1 | refine below_set ?_ GE101.out) | exact HB.out)⟩
    ·rw [if_neg c5] at H
     have c5b0 : ((rd l0_0 0) == 0) = false := beq_eq_false_iff_ne.mpr c5
     have c5b1 : ((rd l0_0 0) != 0) = true := bne_iff_ne.mpr c5
     obtain ⟨ji8, hji8⟩ : ∃ j_ : Int, (wrap64 ((l0_0.length : Int) - 1)) = j_ := ⟨_, rfl⟩
     replace H : (if 0 ≤ (ji8) then (if (ji8) < (l0_0.length : Int) then (if (Go.bits .and .u8 (rd l0_0 (ji8)) 1) = 1 then (if (Go.bits .and .u32 a0_1 1) = 1 then (some (decide (a0_1 ≥ 3))) else (some false)) else (some false)) else (none)) else (none)) = some r := by first | (rw [hji8] at H; exact H) | (simp only [hji8] at H ⊢; exact H)
     have hji8w : (IntKind.i64.wrap ((l0_0.length : Int) - 1)) = ji8 := (i64_w _).trans hji8
     by_cases c9 : 0 ≤ (ji8)
     ·rw [if_pos c9] at H
      have c9b0 : decide (0 ≤ (ji8)) = true := decide_eq_true c9
      clear c9
      by_cases c10 : (ji8) < (l0_0.length : Int)
      ·rw [if_pos c10] at H
       have c10b0 : decide ((ji8) < (l0_0.length : Int)) = true := decide_eq_true c10
       clear c10
       by_cases c11 : (Go.bits .and .u8 (rd l0_0 (ji8)) 1) = 1
       ·rw [if_pos c11] at H
        have c11b0 : ((Go.bits .and .u8 (rd l0_0 (ji8)) 1) == 1) = true := beq_iff_eq.mpr c11
        have c11b1 : ((Go.bits .and .u8 (rd l0_0 (ji8)) 1) != 1) = false := bne_eq_false_iff_eq.mpr c11
        clear c11
        by_cases c12 : (Go.bits .and .u32 a0_1 1) = 1
        ·rw [if_pos c12] at H
         have c12b0 : ((Go.bits .and .u32 a0_1 1) == 1) = true := beq_iff_eq.mpr c12
         have c12b1 : ((Go.bits .and .u32 a0_1 1) != 1) = false := bne_eq_false_iff_eq.mpr c12
         clear c12
         obtain rfl := Option.some.inj H
         go_enter Tryz.func57, Tryz.ntmps57
         go_wp2_with (first | ((with_reducible refine gate_dst (N := 1) rfl ?_); refine box_event ?hg (N := 1) ?hd (cs := #[.slice A0_0 l0_0.length c0_0, .int .u32 a0_1]) (t := 32) ?hr ?_; (case hd => rfl); (case hg => rfl); (case hr => first | (go_simp; done) | (go_simp; rfl)); intro gb101 hg w13 hbox hb; have n0_ := Aside0.mk (below_step (by repeat (first | (with_reducible first | exact HB.out | apply below_alloc | apply pw_below_drewN | apply below_drew1) | exact HB.out)) hb); have n1_ := Aside0.mk (hbox); have n2_ := Aside0.mk ((by rw [hg]; exact (below_size (by repeat (first | (with_reducible first | exact HB.out | apply below_alloc | apply pw_below_drewN | apply below_drew1) | exact HB.out))) : w.heap.size ≤ gb101)); have n3_ := Aside0.mk ((by rw [hg]; exact (below_size (by repeat (first | (with_reducible first | exact HB.out | apply below_alloc | apply pw_below_drewN | apply below_drew1) | exact HB.out))) : w.heap.size ≤ gb101)); clear HB; have HB := n0_; have BK101 := n1_; have GW101 := n2_; have GE101 := n3_; clear n0_ n1_ n2_ n3_; clear hb hbox hg; have hcz14_0 : w13.cell? ⟨gb101, 0, none⟩ = some (.slice A0_0 l0_0.length c0_0) := (blk_cell BK101.out 0).trans rfl; have hcz14_1 : w13.cell? ⟨gb101, 1, none⟩ = some (.int .u32 a0_1) := (blk_cell BK101.out 1).trans rfl; have hfz14_0 := blk_frozen BK101.out 0; have hfz14_1 := blk_frozen BK101.out 1; have p102 : 0 ≤ (0 : Int) := (by omega); have q102 : 0 < (l0_0.length : Int) := of_decide_eq_true (by first | (with_reducible assumption) | assumption); obtain ⟨ad102, e102, hx102_0⟩ := Kd.at_int HR0_0.out 0 p102 q102; cases e102; have qi102 : (0 < l0_0.length) = True := eq_true (by omega); (try rw [show ((0 : Int)).toNat = 0 from rfl] at hx102_0); (try rw [Addr.add_zero'] at hx102_0); replace hx102_0 := (HB.out.cell (World.block_lt_of_cell? w _ hx102_0)).trans hx102_0; replace p102 := eq_true p102; replace q102 := eq_true q102; have p103 : 0 ≤ ((ji8) : Int) := of_decide_eq_true (by first | (with_reducible assumption) | assumption); have q103 : (ji8) < (l0_0.length : Int) := of_decide_eq_true (by first | (with_reducible assumption) | assumption); obtain ⟨ad103, e103, hx103_0⟩ := Kd.at_int HR0_0.out (ji8) p103 q103; obtain rfl : ad102 = ad103 := (by injection e103); replace hx103_0 := (HB.out.cell (World.block_lt_of_cell? w _ hx103_0)).trans hx103_0; replace p103 := eq_true p103; replace q103 := eq_true q103))
         go_ret
         exact ⟨by first | rfl | (simp [errW_none, errW_some] <;> rfl) | (simp only [← hji8]; first | rfl | (simp [errW_none, errW_some] <;> rfl)) | (simp [*, errW_none, errW_some] <;> rfl), by repeat (first | (with_reducible first | exact HB.out | apply below_alloc | apply pw_below_drewN | apply below_drew1 | refine below_set ?_ GE101.out) | exact HB.out)⟩
        ·rw [if_neg c12] at H
         have c12b0 : ((Go.bits .and .u32 a0_1 1) == 1) = false := beq_eq_false_iff_ne.mpr c12
         have c12b1 : ((Go.bits .and .u32 a0_1 1) != 1) = true := bne_iff_ne.mpr c12
         obtain rfl := Option.some.inj H
         go_enter Tryz.func57, Tryz.ntmps57
         go_wp2_with (first | ((with_reducible refine gate_dst (N := 1) rfl ?_); refine box_event ?hg (N := 1) ?hd (cs := #[.slice A0_0 l0_0.length c0_0, .int .u32 a0_1]) (t := 32) ?hr ?_; (case hd => rfl); (case hg => rfl); (case hr => first | (go_simp; done) | (go_simp; rfl)); intro gb101 hg w15 hbox hb; have n0_ := Aside0.mk (below_step (by repeat (first | (with_reducible first | exact HB.out | apply below_alloc | apply pw_below_drewN | apply below_drew1) | exact HB.out)) hb); have n1_ := Aside0.mk (hbox); have n2_ := Aside0.mk ((by rw [hg]; exact (below_size (by repeat (first | (with_reducible first | exact HB.out | apply below_alloc | apply pw_below_drewN | apply below_drew1) | exact HB.out))) : w.heap.size ≤ gb101)); have n3_ := Aside0.mk ((by rw [hg]; exact (below_size (by repeat (first | (with_reducible first | exact HB.out | apply below_alloc | apply pw_below_drewN | apply below_drew1) | exact HB.out))) : w.heap.size ≤ gb101)); clear HB; have HB := n0_; have BK101 := n1_; have GW101 := n2_; have GE101 := n3_; clear n0_ n1_ n2_ n3_; clear hb hbox hg; have hcz16_0 : w15.cell? ⟨gb101, 0, none⟩ = some (.slice A0_0 l0_0.length c0_0) := (blk_cell BK101.out 0).trans rfl; have hcz16_1 : w15.cell? ⟨gb101, 1, none⟩ = some (.int .u32 a0_1) := (blk_cell BK101.out 1).trans rfl; have hfz16_0 := blk_frozen BK101.out 0; have hfz16_1 := blk_frozen BK101.out 1; have p102 : 0 ≤ (0 : Int) := (by omega); have q102 : 0 < (l0_0.length : Int) := of_decide_eq_true (by first | (with_reducible assumption) | assumption); obtain ⟨ad102, e102, hx102_0⟩ := Kd.at_int HR0_0.out 0 p102 q102; cases e102; have qi102 : (0 < l0_0.length) = True := eq_true (by omega); (try rw [show ((0 : Int)).toNat = 0 from rfl] at hx102_0); (try rw [Addr.add_zero'] at hx102_0); replace hx102_0 := (HB.out.cell (World.block_lt_of_cell? w _ hx102_0)).trans hx102_0; replace p102 := eq_true p102; replace q102 := eq_true q102; have p103 : 0 ≤ ((ji8) : Int) := of_decide_eq_true (by first | (with_reducible assumption) | assumption); have q103 : (ji8) < (l0_0.length : Int) := of_decide_eq_true (by first | (with_reducible assumption) | assumption); obtain ⟨ad103, e103, hx103_0⟩ := Kd.at_int HR0_0.out (ji8) p103 q103; obtain rfl : ad102 = ad103 := (by injection e103); replace hx103_0 := (HB.out.cell (World.block_lt_of_cell? w _ hx103_0)).trans hx103_0; replace p103 := eq_true p103; replace q103 := eq_true q103))
         go_ret
         exact ⟨by first | rfl | (simp [errW_none, errW_some] <;> rfl) | (simp only [← hji8]; first | rfl | (simp [errW_none, errW_some] <;> rfl)) | (simp [*, errW_none, errW_some] <;> rfl), by repeat (first | (with_reducible first | exact HB.out | apply below_alloc | apply pw_below_drewN | apply below_drew1 | refine below_set ?_ GE101.out) | exact HB.out)⟩
       ·rw [if_neg c11] at H
        have c11b0 : ((Go.bits .and .u8 (rd l0_0 (ji8)) 1) == 1) = false := beq_eq_false_iff_ne.mpr c11
        have c11b1 : ((Go.bits .and .u8 (rd l0_0 (ji8)) 1) != 1) = true := bne_iff_ne.mpr c11
        obtain rfl := Option.some.inj H
        go_enter Tryz.func57, Tryz.ntmps57
        go_wp2_with (first | ((with_reducible refine gate_dst (N := 1) rfl ?_); refine box_event ?hg (N := 1) ?hd (cs := #[.slice A0_0 l0_0.length c0_0, .int .u32 a0_1]) (t := 32) ?hr ?_; (case hd => rfl); (case hg => rfl); (case hr => first | (go_simp; done) | (go_simp; rfl)); intro gb101 hg w17 hbox hb; have n0_ := Aside0.mk (below_step (by repeat (first | (with_reducible first | exact HB.out | apply below_alloc | apply pw_below_drewN | apply below_drew1) | exact HB.out)) hb); have n1_ := Aside0.mk (hbox); have n2_ := Aside0.mk ((by rw [hg]; exact (below_size (by repeat (first | (with_reducible first | exact HB.out | apply below_alloc | apply pw_below_drewN | apply below_drew1) | exact HB.out))) : w.heap.size ≤ gb101)); have n3_ := Aside0.mk ((by rw [hg]; exact (below_size (by repeat (first | (with_reducible first | exact HB.out | apply below_alloc | apply pw_below_drewN | apply below_drew1) | exact HB.out))) : w.heap.size ≤ gb101)); clear HB; have HB := n0_; have BK101 := n1_; have GW101 := n2_; have GE101 := n3_; clear n0_ n1_ n2_ n3_; clear hb hbox hg; have hcz18_0 : w17.cell? ⟨gb101, 0, none⟩ = some (.slice A0_0 l0_0.length c0_0) := (blk_cell BK101.out 0).trans rfl; have hcz18_1 : w17.cell? ⟨gb101, 1, none⟩ = some (.int .u32 a0_1) := (blk_cell BK101.out 1).trans rfl; have hfz18_0 := blk_frozen BK101.out 0; have hfz18_1 := blk_frozen BK101.out 1; have p102 : 0 ≤ (0 : Int) := (by omega); have q102 : 0 < (l0_0.length : Int) := of_decide_eq_true (by first | (with_reducible assumption) | assumption); obtain ⟨ad102, e102, hx102_0⟩ := Kd.at_int HR0_0.out 0 p102 q102; cases e102; have qi102 : (0 < l0_0.length) = True := eq_true (by omega); (try rw [show ((0 : Int)).toNat = 0 from rfl] at hx102_0); (try rw [Addr.add_zero'] at hx102_0); replace hx102_0 := (HB.out.cell (World.block_lt_of_cell? w _ hx102_0)).trans hx102_0; replace p102 := eq_true p102; replace q102 := eq_true q102; have p103 : 0 ≤ ((ji8) : Int) := of_decide_eq_true (by first | (with_reducible assumption) | assumption); have q103 : (ji8) < (l0_0.length : Int) := of_decide_eq_true (by first | (with_reducible assumption) | assumption); obtain ⟨ad103, e103, hx103_0⟩ := Kd.at_int HR0_0.out (ji8) p103 q103; obtain rfl : ad102 = ad103 := (by injection e103); replace hx103_0 := (HB.out.cell (World.block_lt_of_cell? w _ hx103_0)).trans hx103_0; replace p103 := eq_true p103; replace q103 := eq_true q103))
        go_ret
        exact ⟨by first | rfl | (simp [errW_none, errW_some] <;> rfl) | (simp only [← hji8]; first | rfl | (simp [errW_none, errW_some] <;> rfl)) | (simp [*, errW_none, errW_some] <;> rfl), by repeat (first | (with_reducible first | exact HB.out | apply below_alloc | apply pw_below_drewN | apply below_drew1 | refine below_set ?_ GE101.out) | exact HB.out)⟩
      ·rw [if_neg c10] at H
       exact absurd H (by simp)
     ·rw [if_neg c9] at H
      exact absurd H (by simp)
   ·rw [if_neg c4] at H
    exact absurd H (by simp)
  ·rw [if_neg c3] at H
   have c3b0 : decide ((l0_0.length : Int) ≤ 512) = false := decide_eq_false c3
   have c3b1 : decide (l0_0.length ≤ 512) = false := decide_eq_false (by omega)
   clear c3
   obtain rfl := Option.some.inj H
   go_enter Tryz.func57, Tryz.ntmps57
   go_wp2_with (first | ((with_reducible refine gate_dst (N := 1) rfl ?_); refine box_event ?hg (N := 1) ?hd (cs := #[.slice A0_0 l0_0.length c0_0, .int .u32 a0_1]) (t := 32) ?hr ?_; (case hd => rfl); (case hg => rfl); (case hr => first | (go_simp; done) | (go_simp; rfl)); intro gb101 hg w19 hbox hb; have n0_ := Aside0.mk (below_step (by repeat (first | (with_reducible first | exact HB.out | apply below_alloc | apply pw_below_drewN | apply below_drew1) | exact HB.out)) hb); have n1_ := Aside0.mk (hbox); have n2_ := Aside0.mk ((by rw [hg]; exact (below_size (by repeat (first | (with_reducible first | exact HB.out | apply below_alloc | apply pw_below_drewN | apply below_drew1) | exact HB.out))) : w.heap.size ≤ gb101)); have n3_ := Aside0.mk ((by rw [hg]; exact (below_size (by repeat (first | (with_reducible first | exact HB.out | apply below_alloc | apply pw_below_drewN | apply below_drew1) | exact HB.out))) : w.heap.size ≤ gb101)); clear HB; have HB := n0_; have BK101 := n1_; have GW101 := n2_; have GE101 := n3_; clear n0_ n1_ n2_ n3_; clear hb hbox hg; have hcz20_0 : w19.cell? ⟨gb101, 0, none⟩ = some (.slice A0_0 l0_0.length c0_0) := (blk_cell BK101.out 0).trans rfl; have hcz20_1 : w19.cell? ⟨gb101, 1, none⟩ = some (.int .u32 a0_1) := (blk_cell BK101.out 1).trans rfl; have hfz20_0 := blk_frozen BK101.out 0; have hfz20_1 := blk_frozen BK101.out 1))
   go_ret
   exact ⟨by first | rfl | (simp [errW_none, errW_some] <;> rfl) | (simp [*, errW_none, errW_some] <;> rfl), by repeat (first | (with_reducible first | exact HB.out | apply below_alloc | apply pw_below_drewN | apply below_drew1 | refine below_set ?_ GE101.out) | exact HB.out)⟩
 ·rw [if_neg c2] at H
  have c2b0 : decide (62 ≤ (l0_0.length : Int)) = false := decide_eq_false c2
  have c2b1 : decide (62 ≤ l0_0.length) = false := decide_eq_false (by omega)
  clear c2
  obtain rfl := Option.some.inj H
  go_enter Tryz.func57, Tryz.ntmps57
  go_wp2_with (first | ((with_reducible refine gate_dst (N := 1) rfl ?_); refine box_event ?hg (N := 1) ?hd (cs := #[.slice A0_0 l0_0.length c0_0, .int .u32 a0_1]) (t := 32) ?hr ?_; (case hd => rfl); (case hg => rfl); (case hr => first | (go_simp; done) | (go_simp; rfl)); intro gb101 hg w21 hbox hb; have n0_ := Aside0.mk (below_step (by repeat (first | (with_reducible first | exact HB.out | apply below_alloc | apply pw_below_drewN | apply below_drew1) | exact HB.out)) hb); have n1_ := Aside0.mk (hbox); have n2_ := Aside0.mk ((by rw [hg]; exact (below_size (by repeat (first | (with_reducible first | exact HB.out | apply below_alloc | apply pw_below_drewN | apply below_drew1) | exact HB.out))) : w.heap.size ≤ gb101)); have n3_ := Aside0.mk ((by rw [hg]; exact (below_size (by repeat (first | (with_reducible first | exact HB.out | apply below_alloc | apply pw_below_drewN | apply below_drew1) | exact HB.out))) : w.heap.size ≤ gb101)); clear HB; have HB := n0_; have BK101 := n1_; have GW101 := n2_; have GE101 := n3_; clear n0_ n1_ n2_ n3_; clear hb hbox hg; have hcz22_0 : w21.cell? ⟨gb101, 0, none⟩ = some (.slice A0_0 l0_0.length c0_0) := (blk_cell BK101.out 0).trans rfl; have hcz22_1 : w21.cell? ⟨gb101, 1, none⟩ = some (.int .u32 a0_1) := (blk_cell BK101.out 1).trans rfl; have hfz22_0 := blk_frozen BK101.out 0; have hfz22_1 := blk_frozen BK101.out 1))
  go_ret
  exact ⟨by first | rfl | (simp [errW_none, errW_some] <;> rfl) | (simp [*, errW_none, errW_some] <;> rfl), by repeat (first | (with_reducible first | exact HB.out | apply below_alloc | apply pw_below_drewN | apply below_drew1 | refine below_set ?_ GE101.out) | exact HB.out)⟩

end Go.Proofs.YtcbmjmphicfgpaaGreatDoor.PT
end

section
set_option linter.unusedVariables false
set_option linter.unusedSimpArgs false
namespace Go.Proofs.YtcbmjmphicfgpaaGreatDoor.Tlv
open Go.RowKit Go.Proofs.YtcbmjmphicfgpaaGreatDoorW.PrintWords Go.Proofs.YtcbmjmphicfgpaaGreatDoorW.PrintLast Go.Proofs.YtcbmjmphicfgpaaGreatDoorW.PrintMore Go.Proofs.YtcbmjmphicfgpaaGreatDoor.PT

def rightK (l : List Int) (E : Int) : Bool := (rsa_Right.f l E).getD false
theorem right_f (l : List Int) (E : Int) (hl : l.length ≤ 100000) : rsa_Right.f l E = some (rightK l E) := by
 have hw : (l.length : Int) ≥ 62 → wrap64 ((l.length : Int) - 1) = (l.length : Int) - 1 := fun h => by unfold wrap64; omega
 have : ∃ b, rsa_Right.f l E = some b := by
  unfold rsa_Right.f
  by_cases c1 : (l.length : Int) ≥ 62
  ·rw [if_pos c1, hw c1]
   by_cases c2 : (l.length : Int) ≤ 512
   ·rw [if_pos c2, if_pos (by omega)]
    by_cases c3 : rd l 0 = 0
    ·rw [if_pos c3]; exact ⟨_, rfl⟩
    ·rw [if_neg c3, if_pos (by omega), if_pos (by omega)]
     split
     ·split <;> exact ⟨_, rfl⟩
     ·exact ⟨_, rfl⟩
   ·rw [if_neg c2]; exact ⟨_, rfl⟩
  ·rw [if_neg c1]; exact ⟨_, rfl⟩
 obtain ⟨b, hb⟩ := this
 unfold rightK
 rw [hb]
 rfl
/-- A key as an element. -/
def nodeT (l : List Int) (E : Int) : T := ⟨48, [], [algT 1, bitT (ownB l E)]⟩
def NodePost (w : World) (l : List Int) (E : Int) (e : Ending) (w' : World) : Prop := ∃ (v1 v2 : Value) (n : T) (x : Int), e = .returned (.tuple #[.agg #[.int .i64 n.f0, v1, v2], .int .i64 x]) ∧ NodeR w' w.heap.size w'.heap.size n v1 v2 ∧ ((x = 0 ∧ rightK l E = true ∧ n = nodeT l E) ∨ (x = 1 ∧ rightK l E = false ∧ n = ⟨0, [], []⟩)) ∧ Below w.heap.size w w'
/-- What holds of the two variables. -/
structure NV (w W : World) (A : Option Addr) (n c : Nat) (E : Int) : Prop where
 k : W.heap[w.heap.size]? = some (.cells #[.slice A n c, .int .u32 E] 32 (0, 0))
 r : W.heap[w.heap.size + 1]? = some (.cells #[.int .i64 0, .slice none 0 0, .slice none 0 0] 51 (0, 0))
 b : Below w.heap.size w W
theorem NV.step {w W W2 : World} {A : Option Addr} {n c : Nat} {E : Int} (h : NV w W A n c E) (hB : Below W.heap.size W W2) : NV w W2 A n c E :=
 ⟨(hB.block _ (heap_lt h.k)).trans h.k, (hB.block _ (heap_lt h.r)).trans h.r, h.b.trans (hB.mono h.b.size)⟩
theorem NV.new (w : World) (A : Option Addr) (n c : Nat) (E : Int) : NV w ((w.alloc (.cells #[.slice A n c, .int .u32 E] 32)).alloc (.cells #[.int .i64 0, .slice none 0 0, .slice none 0 0] 51)) A n c E := by
 refine ⟨(Below.heap_alloc _ _ _ (by simp)).trans (heap_alloc_new w _), ?_, ((Below.refl _ _).alloc (Nat.le_refl _) _).alloc (by simp) _⟩
 have := heap_alloc_new (w.alloc (.cells #[.slice A n c, .int .u32 E] 32)) (.cells #[.int .i64 0, .slice none 0 0, .slice none 0 0] 51)
 simpa using this
theorem node_end {w w5 : World} {A : Option Addr} {n c : Nat} {E : Int} {l : List Int} {m1 m2 : Nat} {M2 : Option Addr} {m2c : Nat} {W1 : Option Addr} {e1 : Nat} {W2 : Option Addr} {e2 : Nat} (hV5 : NV w w5 A n c E) (hb1 : w.heap.size + 2 ≤ m1) (hb2 : w.heap.size + 2 ≤ m2) (h1 : NodeR w5 m1 w5.heap.size (algT 1) (.slice none 0 0) (.slice M2 2 m2c)) (h2 : NodeR w5 m2 w5.heap.size (bitT (ownB l E)) (.slice W1 ((ownB l E).length + 1) e1) (.slice W2 0 e2)) (ob : Obj) (hob : ob = .cells #[.int .i64 48, .slice none 0 0, .slice M2 2 m2c, .int .i64 3, .slice W1 ((ownB l E).length + 1) e1, .slice W2 0 e2] 51 (0, 0)) (hob2 : (ownB l E).length ≤ 100000) :
 NV w (w5.alloc ob) A n c E ∧ ∀ W, W = (((w5.alloc ob).setCell ⟨w.heap.size + 1, 0, none⟩ (.int .i64 48)).setCell ⟨w.heap.size + 1, 1, none⟩ (.slice none 0 0)).setCell ⟨w.heap.size + 1, 2, none⟩ (.slice (some ⟨w5.heap.size, 0, none⟩) 2 2) →
  W.heap[w.heap.size]? = some (.cells #[.slice A n c, .int .u32 E] 32 (0, 0)) ∧ W.heap[w.heap.size + 1]? = some (.cells #[.int .i64 48, .slice none 0 0, .slice (some ⟨w5.heap.size, 0, none⟩) 2 2] 51 (0, 0)) ∧ NodeR W w.heap.size W.heap.size (nodeT l E) (.slice none 0 0) (.slice (some ⟨w5.heap.size, 0, none⟩) 2 2) ∧ Below w.heap.size w W := by
 have hBB : Below w5.heap.size w5 (w5.alloc ob) := (Below.refl _ _).alloc (Nat.le_refl _) _
 have h6 : (w5.alloc ob).heap[w5.heap.size]? = some ob := heap_alloc_new w5 _
 have hV6 := hV5.step hBB
 have hs6 : (w5.alloc ob).heap.size = w5.heap.size + 1 := by simp
 have hlt5 : w.heap.size + 1 < w5.heap.size := heap_lt hV5.r
 refine ⟨hV6, fun W hW => ?_⟩
 have hmv : ∀ k, k ≠ w.heap.size + 1 → W.heap[k]? = (w5.alloc ob).heap[k]? := fun k hk => by
  rw [hW]
  exact (heap_setCell_other _ _ _ _ hk).trans ((heap_setCell_other _ _ _ _ hk).trans (heap_setCell_other _ _ _ _ hk))
 have hsW : W.heap.size = w5.heap.size + 1 := by rw [hW]; simp
 have hr : W.heap[w.heap.size + 1]? = some (.cells #[.int .i64 48, .slice none 0 0, .slice (some ⟨w5.heap.size, 0, none⟩) 2 2] 51 (0, 0)) := by
  rw [hW]
  exact heap_setCell_same _ _ 2 _ _ _ (heap_setCell_same _ _ 1 _ _ _ (heap_setCell_same _ _ 0 _ _ _ hV6.r))
 have hBW : Below w.heap.size w W := by
  rw [hW]
  exact Below.setCell (Below.setCell (Below.setCell hV6.b (p := ⟨w.heap.size + 1, 0, none⟩) (by show w.heap.size ≤ w.heap.size + 1; omega) _) (p := ⟨w.heap.size + 1, 1, none⟩) (by show w.heap.size ≤ w.heap.size + 1; omega) _) (p := ⟨w.heap.size + 1, 2, none⟩) (by show w.heap.size ≤ w.heap.size + 1; omega) _
 have g1 : NodeR W w.heap.size w5.heap.size (algT 1) (.slice none 0 0) (.slice M2 2 m2c) := NodeR.widen (NodeR.move h1 (fun k hk1 hk2 => (hmv k (by omega)).trans (Below.heap_alloc w5 ob k hk2))) (by omega) (Nat.le_refl _)
 have g2 : NodeR W w.heap.size w5.heap.size (bitT (ownB l E)) (.slice W1 ((ownB l E).length + 1) e1) (.slice W2 0 e2) := NodeR.widen (NodeR.move h2 (fun k hk1 hk2 => (hmv k (by omega)).trans (Below.heap_alloc w5 ob k hk2))) (by omega) (Nat.le_refl _)
 refine ⟨(hmv _ (by omega)).trans hV6.k, hr, ⟨Kd.R_nil _ _ _ _ _, ?_⟩, hBW⟩
 exact R_row (l := [algT 1, bitT (ownB l E)]) (cs := [.int .i64 48, .slice none 0 0, .slice M2 2 m2c, .int .i64 3, .slice W1 ((ownB l E).length + 1) e1, .slice W2 0 e2]) ((hmv _ (by omega)).trans (by rw [h6, hob])) (by omega) (by omega) (Reps_two g1 g2 (Nat.le_refl _) (by omega)) (by simp)
theorem ownB_len (l : List Int) (E : Int) : (ownB l E).length ≤ 20000 := by
 unfold ownB writeP
 split
 ·simp [resW]
 ·split
  ·simp [resW]
  ·split
   ·simp [resW]
   ·have := size_enc (ownT l E)
    simp only [resW]
    omega

set_option maxHeartbeats 4000000 in
set_option maxRecDepth 100000 in
theorem node_walk (l : List Int) (E : Int) (hl : l.length ≤ 100000) (hv : ∀ x ∈ l, 0 ≤ x ∧ x < 256) (h0 : 0 ≤ E) (h1 : E < 4294967296) (A : Option Addr) (c : Nat) (w : World) (hr : (Kd.int .u8).C w A l.length l) (hc : l.length ≤ c) :
 Calls Tryz.prog 29 #[.agg #[.slice A l.length c, .int .u32 E]] w (NodePost w l E) := by
 have hnot : ∀ (x : Bool) (w : World), (Op.unary .not (.bool x)).run Tryz.prog w = .ok (.bool (!x)) w := fun _ _ => rfl
 have hV := NV.new w A l.length c E
 have HR := Lib.hid (fun w1 (hB : Below w.heap.size w w1) => Kd.C_below hr hB)
 have HRIGHT := Lib.hid (rsa_Right.calls A c l E (rightK l E) _ (Kd.C_below hr hV.b) hc (right_f l E (by omega)))
 have HOWN := Lib.hid (fun w1 (hB : Below w.heap.size w w1) => own_walk l E hl hv h0 h1 A c w1 (Kd.C_below hr hB) hc)
 generalize hPP : NodePost w l E = PP
 have HPP := Lib.hid hPP
 have HV := Lib.hid hV
 have k0 := Lib.cell_of_heap hV.k 0
 have k1 := Lib.cell_of_heap hV.k 1
 clear hPP hV hr hc hv hl
 go_enter Tryz.func29, Tryz.ntmps29
 go_wp2_with (fail)
 refine HRIGHT.out.mono ?_
 rintro e w2 ⟨rfl, hB2⟩
 have hV2 := HV.out.step hB2
 have HV2 := Lib.hid hV2
 have q0 := Lib.cell_of_heap hV2.k 0
 have q1 := Lib.cell_of_heap hV2.k 1
 have r0 := Lib.cell_of_heap hV2.r 0
 have r1 := Lib.cell_of_heap hV2.r 1
 have r2 := Lib.cell_of_heap hV2.r 2
 have f0 := Lib.frozen_of_heap hV2.r 0
 have f1 := Lib.frozen_of_heap hV2.r 1
 have f2 := Lib.frozen_of_heap hV2.r 2
 have hsz2 : w.heap.size + 2 ≤ w2.heap.size := heap_lt hV2.r
 clear hB2 hV2 k0 k1 HV HRIGHT
 cases hrk : rightK l E with
 | false =>
  have HK := Lib.hid hrk
  clear hrk
  go_wp2
  have hF := And.intro (heap_setCell_same _ (w.heap.size + 1) 2 _ _ (.slice none 0 0) (heap_setCell_same _ (w.heap.size + 1) 1 _ _ (.slice none 0 0) (heap_setCell_same _ (w.heap.size + 1) 0 _ _ (.int .i64 0) HV2.out.r))) (Below.setCell (Below.setCell (Below.setCell HV2.out.b (p := ⟨w.heap.size + 1, 0, none⟩) (by show w.heap.size ≤ w.heap.size + 1; omega) (.int .i64 0)) (p := ⟨w.heap.size + 1, 1, none⟩) (by show w.heap.size ≤ w.heap.size + 1; omega) (.slice none 0 0)) (p := ⟨w.heap.size + 1, 2, none⟩) (by show w.heap.size ≤ w.heap.size + 1; omega) (.slice none 0 0))
  generalize ((w2.setCell ⟨w.heap.size + 1, 0, none⟩ (.int .i64 0)).setCell ⟨w.heap.size + 1, 1, none⟩ (.slice none 0 0)).setCell ⟨w.heap.size + 1, 2, none⟩ (.slice none 0 0) = WF at hF ⊢
  obtain ⟨hz, hB⟩ := hF
  have z0 := Lib.cell_of_heap hz 0
  have z1 := Lib.cell_of_heap hz 1
  have z2 := Lib.cell_of_heap hz 2
  refine bodyPost_ret (v := .tuple #[.agg #[.int .i64 0, .slice none 0 0, .slice none 0 0], .int .i64 1]) (by simp at z0 z1 z2; simp [results, Tryz.results29, go_sem, z0, z1, z2]) rfl ?_
  have hPP := HPP.out
  subst hPP
  exact ⟨_, _, ⟨0, [], []⟩, 1, rfl, NodeR.nilnil _ _ _ _, .inr ⟨rfl, HK.out, rfl⟩, hB⟩
 | true =>
  have HK := Lib.hid hrk
  clear hrk
  go_wp2
  have hV2 := HV2.out.step (W2 := w2.drew) (Below.refl _ _).drew
  have HD2 : Hid (Below w2.heap.size w2 w2.drew) := Lib.hid (Below.refl _ _).drew
  have hsd : w2.drew.heap.size = w2.heap.size := rfl
  have HH := Lib.hid (And.intro (Lib.cell_of_heap hV2.k 0) (Lib.cell_of_heap hV2.k 1))
  have HVD := Lib.hid hV2
  clear hV2 q0 q1
  refine start_ (n := 8) (S := fun w' => w'.cell? ⟨w.heap.size, 0, none⟩ = some (.slice A l.length c) ∧ w'.cell? ⟨w.heap.size, 1, none⟩ = some (.int .u32 E)) (ds := []) #[false, false, false, false, false, false, false, false] (by kernel_rfl) rfl rfl HH.out (fun hHeld => ?_)
  refine take_ (i := 1) (N := some 9) (v := ?_) (a' := ?_) #[false, true, false, false, false, false, false, false] rfl rfl (by kernel_rfl) (fun _ _ _ h => h) (Or.inl ⟨by rfl, ?_⟩) hHeld ?_ ?_
  rotate_left
  ·rintro w' ⟨s0, s1⟩
   go_simp
   with_reducible rfl
  rotate_left
  ·simp only [Act.put, List.setIfInBounds_toArray, List.set_cons_zero, List.set_cons_succ, i64_w, i32_w]
   rfl
  refine one_ (i := 0) (N := some 8) #[true, true, false, false, false, false, false, false] rfl rfl (by kernel_rfl) (by decide) (fun K hK => ?_)
  refine goes_ Tryz.func58 (by kernel_rfl) rfl #[.int .u32 1] (by rfl) rfl rfl (by (try simp only [List.map_toArray, List.map_cons, List.map_nil]); first | done | rfl) ?_
  refine (made_walk0 1 oid_f1 _).mono ?_
  rintro e w3 ⟨v2, rfl, hn3, hb3⟩
  refine ⟨_, rfl, ?_⟩
  obtain ⟨M2, m2c, rfl⟩ := Kd.R_slice hn3.k
  have HN3 := Lib.hid hn3
  have HV3 := Lib.hid (HVD.out.step hb3)
  have HS3 := Lib.hid hb3.size
  clear hn3 hb3
  refine hK.out _ _ (And.intro (Lib.cell_of_heap HV3.out.k 0) (Lib.cell_of_heap HV3.out.k 1)) (fun hHeld => ?_)
  clear hK K
  refine norm_ (a' := ?_) ?_ ?_
  rotate_left
  ·show Act.put _ (some 8) _ = _
   simp only [Act.put, List.setIfInBounds_toArray, List.set_cons_zero, List.set_cons_succ, i64_w, i32_w]
   rfl
  refine one_ (i := 2) (N := some 10) #[true, true, true, false, false, false, false, false] rfl rfl (by kernel_rfl) (by decide) (fun K hK => ?_)
  refine goes_ Tryz.func60 (by kernel_rfl) rfl #[.agg #[.slice A l.length c, .int .u32 E]] (by rfl) rfl rfl (by (try simp only [List.map_toArray, List.map_cons, List.map_nil]); first | done | rfl) ?_
  refine (HOWN.out w3 HV3.out.b).mono ?_
  rintro e w4 ⟨O, ob, oc, rfl, hob, ho4, hb4⟩
  refine ⟨_, rfl, ?_⟩
  have HV4 := Lib.hid (HV3.out.step hb4)
  have HN4 := Lib.hid (HN3.out.below hb4)
  have HO4 := Lib.hid (And.intro hob (And.intro ho4 hb4.size))
  clear hob ho4 hb4
  refine hK.out _ _ (And.intro (Lib.cell_of_heap HV4.out.k 0) (Lib.cell_of_heap HV4.out.k 1)) (fun hHeld => ?_)
  clear hK K
  refine norm_ (a' := ?_) ?_ ?_
  rotate_left
  ·show Act.put _ (some 10) _ = _
   simp only [Act.put, List.setIfInBounds_toArray, List.set_cons_zero, List.set_cons_succ, i64_w, i32_w]
   rfl
  refine one_ (i := 3) (N := some 11) #[true, true, true, true, false, false, false, false] rfl rfl (by kernel_rfl) (by decide) (fun K hK => ?_)
  refine goes_ Tryz.func59 (by kernel_rfl) rfl #[.slice O ob.length oc] (by rfl) rfl rfl (by (try simp only [List.map_toArray, List.map_cons, List.map_nil]); first | done | rfl) ?_
  obtain ⟨hob, ho4, hsz4⟩ := HO4.out
  subst hob
  have hln := ownB_len l E
  obtain ⟨_, _, f1', g1, k1'⟩ := Kd.R_reads ho4
  injection f1' with f1' _ f2'
  subst f1' f2'
  refine (spki_whole.calls O oc (ownB l E) 3 (0 :: ownB l E) [] w4 k1' g1 (whole_f _ (by omega))).mono ?_
  rintro e w5 ⟨v1, v2, rfl, hv1, hv2, hb5⟩
  refine ⟨_, rfl, ?_⟩
  have hm5 := NodeR.of (n := bitT (ownB l E)) hv1 hv2
  obtain ⟨W1, e1, rfl⟩ := Kd.R_slice hv1
  obtain ⟨W2, e2, rfl⟩ := Kd.R_slice hv2
  have HE := Lib.hid (node_end (l := l) (HV4.out.step hb5) (by omega) (by have := HS3.out; omega) (NodeR.widen (HN4.out.below (hb5.mono hsz4)) (Nat.le_refl _) (Nat.le_trans hsz4 hb5.size)) hm5 _ rfl (by omega))
  have HV5 := Lib.hid (HV4.out.step hb5)
  clear hv1 hv2 hb5 hm5 hln k1' g1 ho4 hsz4
  refine hK.out _ _ (And.intro (Lib.cell_of_heap HV5.out.k 0) (Lib.cell_of_heap HV5.out.k 1)) (fun hHeld => ?_)
  clear hK K
  refine norm_ (a' := ?_) ?_ ?_
  rotate_left
  ·show Act.put _ (some 11) _ = _
   simp only [Act.put, List.setIfInBounds_toArray, List.set_cons_zero, List.set_cons_succ, i64_w, i32_w]
   rfl
  refine one_ (i := 4) (N := some 12) #[true, true, true, true, true, false, false, false] rfl rfl (by kernel_rfl) (by decide) (fun K hK => ?_)
  refine event_step (by rfl) (v := .slice (some ⟨w5.heap.size, 0, none⟩) 2 2) (w1 := w5.alloc (.cells #[.int .i64 48, .slice none 0 0, .slice M2 2 m2c, .int .i64 3, .slice W1 ((ownB l E).length + 1) e1, .slice W2 0 e2] 51)) (by go_simp; try rfl) ?_
  have HV6 := Lib.hid HE.out.1
  refine hK.out _ _ (And.intro (Lib.cell_of_heap HV6.out.k 0) (Lib.cell_of_heap HV6.out.k 1)) (fun hHeld => ?_)
  clear hK K
  refine norm_ (a' := ?_) ?_ ?_
  rotate_left
  ·show Act.put _ (some 12) _ = _
   simp only [Act.put, List.setIfInBounds_toArray, List.set_cons_zero, List.set_cons_succ, i64_w, i32_w]
   rfl
  refine pure_ (i := 5) (N := some 13) (v := ?_) (a' := ?_) #[true, true, true, true, true, true, false, false] rfl rfl (by kernel_rfl) (fun _ _ _ h => h) (Or.inl ⟨by rfl, ?_⟩) ?_ ?_
  rotate_left
  ·intro w'
   go_simp
   with_reducible rfl
  rotate_left
  ·simp only [Act.put, List.setIfInBounds_toArray, List.set_cons_zero, List.set_cons_succ, i64_w, i32_w]
   rfl
  refine one_ (i := 6) (N := none) #[true, true, true, true, true, true, true, false] rfl rfl (by kernel_rfl) (by decide) (fun K hK => ?_)
  have u0 := Lib.cell_of_heap HV6.out.r 0
  have u1 := Lib.cell_of_heap HV6.out.r 1
  have u2 := Lib.cell_of_heap HV6.out.r 2
  have g0 := Lib.frozen_of_heap HV6.out.r 0
  have g1 := Lib.frozen_of_heap HV6.out.r 1
  have g2 := Lib.frozen_of_heap HV6.out.r 2
  refine skip_step (by rfl) (w1 := (((w5.alloc (.cells #[.int .i64 48, .slice none 0 0, .slice M2 2 m2c, .int .i64 3, .slice W1 ((ownB l E).length + 1) e1, .slice W2 0 e2] 51)).setCell ⟨w.heap.size + 1, 0, none⟩ (.int .i64 48)).setCell ⟨w.heap.size + 1, 1, none⟩ (.slice none 0 0)).setCell ⟨w.heap.size + 1, 2, none⟩ (.slice (some ⟨w5.heap.size, 0, none⟩) 2 2)) (by go_simp; try rfl) ?_
  have HZ := Lib.hid (HE.out.2 _ rfl)
  clear u0 u1 u2 g0 g1 g2
  refine hK.out _ _ (And.intro (Lib.cell_of_heap HZ.out.1 0) (Lib.cell_of_heap HZ.out.1 1)) (fun hHeld => ?_)
  clear hK K
  refine pure_ (i := 7) (N := some 3) (v := ?_) (a' := ?_) #[true, true, true, true, true, true, true, true] rfl rfl (by kernel_rfl) (fun _ _ _ h => h) (Or.inl ⟨by rfl, ?_⟩) ?_ ?_
  rotate_left
  ·intro w'
   go_simp
   with_reducible rfl
  rotate_left
  ·simp only [Act.put, List.setIfInBounds_toArray, List.set_cons_zero, List.set_cons_succ, i64_w, i32_w]
   rfl
  refine done_ (by kernel_rfl) ?_
  go_wp2
  have hz := HZ.out
  generalize (((w5.alloc (.cells #[.int .i64 48, .slice none 0 0, .slice M2 2 m2c, .int .i64 3, .slice W1 ((ownB l E).length + 1) e1, .slice W2 0 e2] 51)).setCell ⟨w.heap.size + 1, 0, none⟩ (.int .i64 48)).setCell ⟨w.heap.size + 1, 1, none⟩ (.slice none 0 0)).setCell ⟨w.heap.size + 1, 2, none⟩ (.slice (some ⟨w5.heap.size, 0, none⟩) 2 2) = WF at hz ⊢
  obtain ⟨_, hzr, hzN, hzB⟩ := hz
  have z0 := Lib.cell_of_heap hzr 0
  have z1 := Lib.cell_of_heap hzr 1
  have z2 := Lib.cell_of_heap hzr 2
  refine bodyPost_ret (v := .tuple #[.agg #[.int .i64 48, .slice none 0 0, .slice (some ⟨w5.heap.size, 0, none⟩) 2 2], .int .i64 0]) (by simp at z0 z1 z2; simp [results, Tryz.results29, go_sem, z0, z1, z2]) rfl ?_
  have hPP := HPP.out
  subst hPP
  exact ⟨_, _, nodeT l E, 0, rfl, hzN, .inl ⟨rfl, HK.out, rfl⟩, hzB⟩

/-- What Node gives, in one form. -/
def NodeUni (w : World) (l : List Int) (E : Int) (e : Ending) (w' : World) : Prop := ∃ (X1 : Option Addr) (x1 : Nat) (X2 : Option Addr) (x2 : Nat) (n : T) (x : Int), e = .returned (.tuple #[.agg #[.int .i64 n.f0, .slice X1 n.f1.length x1, .slice X2 n.f2.length x2], .int .i64 x]) ∧ NodeAt w' n X1 x1 X2 x2 ∧ ((x = 0 ∧ rightK l E = true ∧ n = nodeT l E) ∨ (x = 1 ∧ rightK l E = false ∧ n = ⟨0, [], []⟩)) ∧ Below w.heap.size w w'
theorem NodePost.uni {w : World} {l : List Int} {E : Int} {e : Ending} {w' : World} (h : NodePost w l E e w') : NodeUni w l E e w' := by
 obtain ⟨v1, v2, n, x, rfl, hR, hc, hB⟩ := h
 obtain ⟨X1, x1, X2, x2, rfl, rfl, hn⟩ := hR.form
 exact ⟨X1, x1, X2, x2, n, x, rfl, hn, hc, hB⟩

end Go.Proofs.YtcbmjmphicfgpaaGreatDoor.Tlv
end

section
set_option linter.unusedVariables false
set_option linter.unusedSimpArgs false
namespace Go.Proofs.YtcbmjmphicfgpaaGreatDoor.Tlv
open Go.RowKit Go.Proofs.YtcbmjmphicfgpaaGreatDoorW.PrintWords Go.Proofs.YtcbmjmphicfgpaaGreatDoorW.PrintLast Go.Proofs.YtcbmjmphicfgpaaGreatDoorW.PrintMore Go.Proofs.YtcbmjmphicfgpaaGreatDoor.PT

set_option maxHeartbeats 4000000 in
set_option maxRecDepth 100000 in
theorem of_none (n : T) (h0 : n.f1 = []) (A1 : Option Addr) (c1 : Nat) (A2 : Option Addr) (c2 : Nat) (w : World) :
 Calls Tryz.prog 85 #[.agg #[.int .i64 n.f0, .slice A1 n.f1.length c1, .slice A2 n.f2.length c2]] w fun e w' => e = .returned (.tuple #[.slice none 0 0, .int .i64 0, .int .i64 2]) ∧ Below w.heap.size w w' := by
 have hl : n.f1.length = 0 := by rw [h0]; rfl
 rw [hl]
 have hB := Lib.hid (show Below w.heap.size w (w.alloc (.cells #[.int .i64 n.f0, .slice A1 0 c1, .slice A2 n.f2.length c2] 51)) from (Below.refl _ _).alloc (Nat.le_refl _) _)
 go_enter Tryz.func85, Tryz.ntmps85
 go_wp2
 go_ret3
 exact ⟨rfl, hB.out⟩

set_option maxHeartbeats 4000000 in
set_option maxRecDepth 100000 in
theorem of_walk (n : T) (h : Int) (t : List Int) (h1 : n.f1 = h :: t) (hh : 0 ≤ h ∧ h < 256) (ht : t.length ≤ 1000000) (r : T) (r4 : Int) (hf : scalar_Bits.f t (wrap64 (wrap64 (8 * (t.length : Int)) - h)) = some (r.f0, r.f1, r.f2, r4))
 (A1 : Option Addr) (c1 : Nat) (A2 : Option Addr) (c2 : Nat) (w : World) (hn : NodeAt w n A1 c1 A2 c2) :
 Calls Tryz.prog 85 #[.agg #[.int .i64 n.f0, .slice A1 n.f1.length c1, .slice A2 n.f2.length c2]] w fun e w' =>
  ((¬ (r4 = 0 ∧ sameB r n = true) ∧ e = .returned (.tuple #[.slice none 0 0, .int .i64 0, .int .i64 2])) ∨ (r4 = 0 ∧ sameB r n = true ∧ ∃ A c, e = .returned (.tuple #[.slice A t.length c, .int .i64 (wrap64 (wrap64 (8 * (t.length : Int)) - h)), .int .i64 0]) ∧ (Kd.int .u8).R 5 w' w.heap.size (fun _ => True) (.slice A t.length c) t)) ∧ Below w.heap.size w w' := by
 have hr1 : ReadsInt w .u8 A1 n.f1.length n.f1 := reads_of_C hn.1
 have hlen : n.f1.length = t.length + 1 := by rw [h1]; rfl
 have hc1 := hn.2.1
 obtain ⟨i0, hi, hz0, hz1, hz2⟩ := info_parts infoByte
 obtain ⟨T1, hcut, hcr, hcc⟩ := print_cut_int (P := Tryz.prog) (k := .u8) 29 5 Tryz.underlying29 hi hz1 A1 c1 n.f1 (1 : Int) (by omega) (by omega) hc1
 have hd1 : n.f1.drop (Int.toNat 1) = t := by rw [h1]; rfl
 rw [hd1] at hcut hcr hcc
 obtain ⟨ad, e1, hx⟩ := hr1.2.2 (by omega)
 subst e1
 have hx0 : w.cell? ad = some (.int .u8 h) := by
  have := hx 0 (by omega)
  rw [h1, show ad.add 0 = ad by cases ad; simp [Addr.add]] at this
  simpa using this
 have HN := Lib.hid hn
 have HB1 := Lib.hid (show Below w.heap.size w (w.alloc (.cells #[.int .i64 n.f0, .slice (some ad) (t.length + 1) c1, .slice A2 n.f2.length c2] 51)) from (Below.refl _ _).alloc (Nat.le_refl _) _)
 have HBX := Lib.hid (show (w.alloc (.cells #[.int .i64 n.f0, .slice (some ad) (t.length + 1) c1, .slice A2 n.f2.length c2] 51)).heap[w.heap.size]? = some (.cells #[.int .i64 n.f0, .slice (some ad) (t.length + 1) c1, .slice A2 n.f2.length c2] 51 (0, 0)) from heap_alloc_new w _)
 have HCL := Lib.hid (fun w1 (hB : Below w.heap.size w w1) => clone_walk T1 (c1 - 1) t w1 (ReadsInt_below (hcr w hr1) hB) (by simpa using hcc) ht)
 have HX0 := Lib.hid hx0
 have HF := Lib.hid hf
 have HH := Lib.hid hh
 have HT := Lib.hid ht
 clear hcr hcc hd1 hx hx0 hr1 hn hf hi hz0 hz1 hz2 h1 hh ht
 rw [hlen] at hcut hc1 ⊢
 have h4 : ∀ (w3 : World) (A' : Option Addr) (c' : Nat), (Kd.int .u8).R 5 w3 (w.alloc (.cells #[.int .i64 n.f0, .slice (some ad) (t.length + 1) c1, .slice A2 n.f2.length c2] 51)).heap.size (fun _ => True) (.slice A' t.length c') t →
  Below (w.alloc (.cells #[.int .i64 n.f0, .slice (some ad) (t.length + 1) c1, .slice A2 n.f2.length c2] 51)).heap.size (w.alloc (.cells #[.int .i64 n.f0, .slice (some ad) (t.length + 1) c1, .slice A2 n.f2.length c2] 51)) w3 → ∀ w4 : World, w4 = (w3.alloc (.cells #[.slice A' t.length c'] 29)).drew →
  (w4.cell? ⟨w3.heap.size, 0, none⟩ = some (.slice A' t.length c') ∧ w4.cell? ⟨w.heap.size, 1, none⟩ = some (.slice (some ad) (t.length + 1) c1) ∧ w4.cell? ad = some (.int .u8 h)) ∧
  ((w4.alloc (.cells #[.int .i64 0] 3)).cell? ⟨w3.heap.size, 0, none⟩ = some (.slice A' t.length c') ∧ (w4.alloc (.cells #[.int .i64 0] 3)).cell? ⟨w.heap.size, 1, none⟩ = some (.slice (some ad) (t.length + 1) c1) ∧ (w4.alloc (.cells #[.int .i64 0] 3)).cell? ad = some (.int .u8 h)) ∧
  (w4.alloc (.cells #[.int .i64 0] 3)).cell? ⟨w4.heap.size, 0, none⟩ = some (.int .i64 0) ∧ (w4.alloc (.cells #[.int .i64 0] 3)).frozen? ⟨w4.heap.size, 0, none⟩ = false ∧
  w4.heap.size = w3.heap.size + 1 ∧
  (∀ many : Int, ∀ w5 : World, w5 = (w4.alloc (.cells #[.int .i64 0] 3)).setCell ⟨w4.heap.size, 0, none⟩ (.int .i64 many) →
   w5.heap[w3.heap.size]? = some (.cells #[.slice A' t.length c'] 29 (0, 0)) ∧ w5.heap[w4.heap.size]? = some (.cells #[.int .i64 many] 3 (0, 0)) ∧ w5.heap[w.heap.size]? = some (.cells #[.int .i64 n.f0, .slice (some ad) (t.length + 1) c1, .slice A2 n.f2.length c2] 51 (0, 0)) ∧ Below w.heap.size w w5 ∧
   (Kd.int .u8).R 5 w5 w.heap.size (fun k => k < w3.heap.size) (.slice A' t.length c') t ∧ t.length ≤ c' ∧ ReadsInt w5 .u8 A' t.length t) := by
  intro w3 A' c' hv3 hB3 w4 hw4
  have hbx := HBX.out
  have hB1 := HB1.out
  generalize (w.alloc (.cells #[.int .i64 n.f0, .slice (some ad) (t.length + 1) c1, .slice A2 n.f2.length c2] 51)) = w2 at hv3 hB3 hbx hB1
  have hb3 := (hB3.block _ (heap_lt hbx)).trans hbx
  have hBw3 : Below w.heap.size w w3 := hB1.trans (hB3.mono hB1.size)
  have hal : Below w3.heap.size w3 (w3.alloc (.cells #[.slice A' t.length c'] 29)).drew := ((Below.refl _ _).alloc (Nat.le_refl _) _).drew
  have hs4 : w4.heap.size = w3.heap.size + 1 := by rw [hw4]; show (w3.alloc _).heap.size = _; simp
  have hp4 : w4.heap[w3.heap.size]? = some (.cells #[.slice A' t.length c'] 29 (0, 0)) := by rw [hw4]; exact heap_alloc_new w3 _
  rw [← hw4] at hal
  have hb4 := (hal.block _ (heap_lt hb3)).trans hb3
  have hBw4 : Below w.heap.size w w4 := hBw3.trans (hal.mono hBw3.size)
  have hx4 : w4.cell? ad = some (.int .u8 h) := (hBw4.cell (World.block_lt_of_cell? w _ HX0.out)).trans HX0.out
  have hal2 : Below w4.heap.size w4 (w4.alloc (.cells #[.int .i64 0] 3)) := (Below.refl _ _).alloc (Nat.le_refl _) _
  have hq5 : (w4.alloc (.cells #[.int .i64 0] 3)).heap[w4.heap.size]? = some (.cells #[.int .i64 0] 3 (0, 0)) := heap_alloc_new w4 _
  have hp5 := (hal2.block _ (heap_lt hp4)).trans hp4
  have hb5 := (hal2.block _ (heap_lt hb4)).trans hb4
  have hx5 : (w4.alloc (.cells #[.int .i64 0] 3)).cell? ad = some (.int .u8 h) := (hal2.cell (World.block_lt_of_cell? w4 _ hx4)).trans hx4
  refine ⟨⟨Lib.cell_of_heap hp4 0, Lib.cell_of_heap hb4 1, hx4⟩, ⟨Lib.cell_of_heap hp5 0, Lib.cell_of_heap hb5 1, hx5⟩, Lib.cell_of_heap hq5 0, Lib.frozen_of_heap hq5 0, hs4, ?_⟩
  intro many w5 hw5
  subst hw5
  have hR4 := Kd.R_below (Kd.R_mono (Kd.R_bound hv3) (fun k hk => show k < w3.heap.size from hk.2.2.1)) hal
  have hR5 := Kd.R_below hR4 hal2
  have hR6 := Kd.R_far (p := ⟨w4.heap.size, 0, none⟩) hR5 (fun k hk => by show k ≠ w4.heap.size; omega) (.int .i64 many)
  have hR7 := Kd.R_lower hR6 hB1.size
  obtain ⟨_, _, e1, hc', hrd⟩ := Kd.R_reads hR7
  injection e1 with e1 _ e1'
  subst e1 e1'
  have hBw5 := hBw4.trans (hal2.mono hBw4.size)
  refine ⟨(heap_setCell_other _ _ _ _ (by show w3.heap.size ≠ w4.heap.size; omega)).trans hp5, heap_setCell_same _ _ 0 _ _ _ hq5, (heap_setCell_other _ _ _ _ (by show w.heap.size ≠ w4.heap.size; have := heap_lt hb3; omega)).trans hb5, Below.setCell hBw5 (p := ⟨w4.heap.size, 0, none⟩) hBw4.size _, hR7, hc', reads_of_C hrd⟩
 have HH4 := Lib.hid h4
 clear h4
 go_enter Tryz.func85, Tryz.ntmps85
 go_wp2_with (fail)
 refine (HCL.out _ HB1.out).mono ?_
 rintro e w3 ⟨A', c', rfl, hv3, hB3⟩
 have H3 := Lib.hid (HH4.out w3 A' c' hv3 hB3)
 have HW3 := Lib.hid (Nat.le_trans HB1.out.size hB3.size)
 clear HH4 hv3 hB3 HCL
 go_wp2
 have h4 := H3.out _ rfl
 have a0 := h4.1.1
 have a1 := h4.1.2.1
 have a2 := h4.1.2.2
 have H4 := Lib.hid h4.2
 clear h4 H3
 have hwh : wrap64 h = h := wrap64_in _ (by have := HH.out; omega)
 refine start_ (n := 11) (S := fun w' => w'.cell? ⟨w3.heap.size, 0, none⟩ = some (.slice A' t.length c') ∧ w'.cell? ⟨w.heap.size, 1, none⟩ = some (.slice (some ad) (t.length + 1) c1) ∧ w'.cell? ad = some (.int .u8 h)) (ds := [10]) #[false, false, false, false, false, false, false, false, false, false, false] (by kernel_rfl) rfl rfl ⟨a0, a1, a2⟩ (fun hHeld => ?_)
 generalize (w3.alloc (.cells #[.slice A' t.length c'] 29)).drew = w4 at hHeld H4 ⊢
 clear a0 a1 a2
 refine pure_ (i := 3) (N := some 19) (v := ?_) (a' := ?_) #[false, false, false, true, false, false, false, false, false, false, false] rfl rfl (by kernel_rfl) (fun _ _ _ h => h) (Or.inl ⟨by rfl, ?_⟩) ?_ ?_
 rotate_left
 ·intro w'
  go_simp
  with_reducible rfl
 rotate_left
 ·simp only [Act.put, List.setIfInBounds_toArray, List.set_cons_zero, List.set_cons_succ, i64_w, i32_w]
  rfl
 refine take_ (i := 0) (N := some 16) (v := ?_) (a' := ?_) #[true, false, false, true, false, false, false, false, false, false, false] rfl rfl (by kernel_rfl) (fun _ _ _ h => h) (Or.inl ⟨by rfl, ?_⟩) hHeld ?_ ?_
 rotate_left
 ·rintro w' ⟨s0, s1, s2⟩
  go_simp
  with_reducible rfl
 rotate_left
 ·simp only [Act.put, List.setIfInBounds_toArray, List.set_cons_zero, List.set_cons_succ, i64_w, i32_w]
  rfl
 refine pure_ (i := 1) (N := some 17) (v := ?_) (a' := ?_) #[true, true, false, true, false, false, false, false, false, false, false] rfl rfl (by kernel_rfl) (fun _ _ _ h => h) (Or.inl ⟨by rfl, ?_⟩) ?_ ?_
 rotate_left
 ·intro w'
  go_simp
  with_reducible rfl
 rotate_left
 ·simp only [Act.put, List.setIfInBounds_toArray, List.set_cons_zero, List.set_cons_succ, i64_w, i32_w]
  rfl
 refine pure_ (i := 2) (N := some 18) (v := ?_) (a' := ?_) #[true, true, true, true, false, false, false, false, false, false, false] rfl rfl (by kernel_rfl) (fun _ _ _ h => h) (Or.inl ⟨by rfl, ?_⟩) ?_ ?_
 rotate_left
 ·intro w'
  go_simp
  with_reducible rfl
 rotate_left
 ·simp only [Act.put, List.setIfInBounds_toArray, List.set_cons_zero, List.set_cons_succ, i64_w, i32_w]
  rfl
 refine take_ (i := 4) (N := some 20) (v := ?_) (a' := ?_) #[true, true, true, true, true, false, false, false, false, false, false] rfl rfl (by kernel_rfl) (fun _ _ _ h => h) (Or.inl ⟨by rfl, ?_⟩) hHeld ?_ ?_
 rotate_left
 ·rintro w' ⟨s0, s1, s2⟩
  go_simp
  with_reducible rfl
 rotate_left
 ·simp only [Act.put, List.setIfInBounds_toArray, List.set_cons_zero, List.set_cons_succ, i64_w, i32_w]
  rfl
 refine pure_ (i := 5) (N := some 21) (v := ?_) (a' := ?_) #[true, true, true, true, true, true, false, false, false, false, false] rfl rfl (by kernel_rfl) (fun _ _ _ h => h) (Or.inl ⟨by rfl, ?_⟩) ?_ ?_
 rotate_left
 ·intro w'
  go_simp
  with_reducible rfl
 rotate_left
 ·simp only [Act.put, List.setIfInBounds_toArray, List.set_cons_zero, List.set_cons_succ, i64_w, i32_w]
  rfl
 refine take_ (i := 6) (N := some 22) (v := ?_) (a' := ?_) #[true, true, true, true, true, true, true, false, false, false, false] rfl rfl (by kernel_rfl) (fun _ _ _ h => h) (Or.inl ⟨by rfl, ?_⟩) hHeld ?_ ?_
 rotate_left
 ·rintro w' ⟨s0, s1, s2⟩
  go_simp
  with_reducible rfl
 rotate_left
 ·simp only [Act.put, List.setIfInBounds_toArray, List.set_cons_zero, List.set_cons_succ, i64_w, i32_w]
  rfl
 refine pure_ (i := 7) (N := some 23) (v := ?_) (a' := ?_) #[true, true, true, true, true, true, true, true, false, false, false] rfl rfl (by kernel_rfl) (fun _ _ _ h => h) (Or.inl ⟨by rfl, ?_⟩) ?_ ?_
 rotate_left
 ·intro w'
  go_simp
  with_reducible rfl
 rotate_left
 ·simp only [Act.put, List.setIfInBounds_toArray, List.set_cons_zero, List.set_cons_succ, i64_w, i32_w]
  rfl
 refine pure_ (i := 8) (N := some 24) (v := ?_) (a' := ?_) #[true, true, true, true, true, true, true, true, true, false, false] rfl rfl (by kernel_rfl) (fun _ _ _ h => h) (Or.inl ⟨by rfl, ?_⟩) ?_ ?_
 rotate_left
 ·intro w'
  go_simp
  with_reducible rfl
 rotate_left
 ·simp only [Act.put, List.setIfInBounds_toArray, List.set_cons_zero, List.set_cons_succ, i64_w, i32_w]
  rfl
 refine one_ (i := 9) (N := some 6) #[true, true, true, true, true, true, true, true, true, true, false] rfl rfl (by kernel_rfl) (by decide) (fun K hK => ?_)
 refine event_step (by rfl) (v := .pointer (some ⟨w4.heap.size, 0, none⟩)) (w1 := w4.alloc (.cells #[.int .i64 0] 3)) (by go_simp; try rfl) ?_
 refine hK.out _ _ H4.out.1 (fun hHeld => ?_)
 clear hK K
 refine norm_ (a' := ?_) ?_ ?_
 rotate_left
 ·show Act.put _ (some 6) _ = _
  simp only [Act.put, List.setIfInBounds_toArray, List.set_cons_zero, List.set_cons_succ, i64_w, i32_w]
  rfl
 refine last_ (i := 10) (N := none) #[true, true, true, true, true, true, true, true, true, true, true] rfl rfl (by kernel_rfl) (by decide) (fun K hK => ?_)
 have hz1 := H4.out.2.1
 have hz2 := H4.out.2.2.1
 refine skip_step (by rfl) (w1 := (w4.alloc (.cells #[.int .i64 0] 3)).setCell ⟨w4.heap.size, 0, none⟩ (.int .i64 (wrap64 (wrap64 (8 * (t.length : Int)) - h)))) (by go_simp; try rfl) ?_
 refine hK.out _ _ ?_
 clear hK K
 refine done_ (by kernel_rfl) ?_
 have h5 := H4.out.2.2.2.2 (wrap64 (wrap64 (8 * (t.length : Int)) - h)) _ rfl
 have HS4 := Lib.hid H4.out.2.2.2.1
 clear H4
 generalize (w4.alloc (.cells #[.int .i64 0] 3)).setCell ⟨w4.heap.size, 0, none⟩ (.int .i64 (wrap64 (wrap64 (8 * (t.length : Int)) - h))) = w5 at h5 ⊢
 have a0 := Lib.cell_of_heap h5.1 0
 have b0 := Lib.cell_of_heap h5.2.2.1 0
 have b1 := Lib.cell_of_heap h5.2.2.1 1
 have b2 := Lib.cell_of_heap h5.2.2.1 2
 have HJ := Lib.hid (just_walk A' t c' n (some ad) c1 A2 c2 w3.heap.size w4.heap.size w5 (HN.out.below h5.2.2.2.1) A' c' t _ r r4 _ _ h5.1 h5.2.1 h5.2.2.2.2.2.2 h5.2.2.2.2.2.1 HF.out)
 rw [hlen] at HJ
 have H5 := Lib.hid h5
 clear h5
 go_wp2_with (fail)
 refine HJ.out.mono ?_
 rintro e w6 ⟨rfl, hB6⟩
 clear HJ a0 b0 b1 b2
 have hp6 := (hB6.block _ (heap_lt H5.out.1)).trans H5.out.1
 have hq6 := (hB6.block _ (heap_lt H5.out.2.1)).trans H5.out.2.1
 have hR6 := Kd.R_below H5.out.2.2.2.2.1 hB6
 have hBw6 := H5.out.2.2.2.1.trans (hB6.mono H5.out.2.2.2.1.size)
 have hne : w4.heap.size ≠ w3.heap.size := by have := HS4.out; omega
 have hw3 : w.heap.size ≤ w3.heap.size := HW3.out
 have hR7 : ∀ u, (Kd.int .u8).R 5 (w6.setCell ⟨w3.heap.size, 0, none⟩ u) w.heap.size (fun k => k < w3.heap.size) (.slice A' t.length c') t := fun u => Kd.R_far (p := ⟨w3.heap.size, 0, none⟩) hR6 (fun k hk => by show k ≠ w3.heap.size; omega) u
 have hB7 : ∀ u, Below w.heap.size w (w6.setCell ⟨w3.heap.size, 0, none⟩ u) := fun u => Below.setCell hBw6 (p := ⟨w3.heap.size, 0, none⟩) hw3 u
 have hp7 : ∀ u, (w6.setCell ⟨w3.heap.size, 0, none⟩ u).drew.heap[w3.heap.size]? = some (.cells #[u] 29 (0, 0)) := fun u => by show (w6.setCell ⟨w3.heap.size, 0, none⟩ u).heap[w3.heap.size]? = _; exact heap_setCell_same _ _ 0 _ _ _ hp6
 have hq7 : ∀ u, (w6.setCell ⟨w3.heap.size, 0, none⟩ u).drew.heap[w4.heap.size]? = some (.cells #[.int .i64 (wrap64 (wrap64 (8 * (t.length : Int)) - h))] 3 (0, 0)) := fun u => by show (w6.setCell ⟨w3.heap.size, 0, none⟩ u).heap[w4.heap.size]? = _; exact (heap_setCell_other _ _ _ _ (by show w4.heap.size ≠ w3.heap.size; omega)).trans hq6
 have x0 := Lib.cell_of_heap hp6 0
 have fx0 := Lib.frozen_of_heap hp6 0
 have HR7 := Lib.hid hR7
 have HB7 := Lib.hid hB7
 have HP7 := Lib.hid hp7
 have HQ7 := Lib.hid hq7
 clear hR7 hB7 hp7 hq7 hp6 hq6 hR6 hBw6 hB6
 by_cases hgood : r4 = 0 ∧ sameB r n = true
 ·rw [if_pos hgood]
  have HG := Lib.hid hgood
  clear hgood
  go_wp2
  have a0 : (w6.setCell ⟨w3.heap.size, 0, none⟩ (.slice A' t.length c')).drew.cell? ⟨w3.heap.size, 0, none⟩ = some (.slice A' t.length c') := Lib.cell_of_heap (HP7.out _) 0
  have a1 : (w6.setCell ⟨w3.heap.size, 0, none⟩ (.slice A' t.length c')).drew.cell? ⟨w4.heap.size, 0, none⟩ = some (.int .i64 (wrap64 (wrap64 (8 * (t.length : Int)) - h))) := Lib.cell_of_heap (HQ7.out _) 0
  refine start_ (n := 5) (S := fun w' => w'.cell? ⟨w3.heap.size, 0, none⟩ = some (.slice A' t.length c') ∧ w'.cell? ⟨w4.heap.size, 0, none⟩ = some (.int .i64 (wrap64 (wrap64 (8 * (t.length : Int)) - h)))) (ds := []) #[false, false, false, false, false] (by kernel_rfl) rfl rfl ⟨a0, a1⟩ (fun hHeld => ?_)
  refine take_ (i := 0) (N := some 35) (v := ?_) (a' := ?_) #[true, false, false, false, false] rfl rfl (by kernel_rfl) (fun _ _ _ h => h) (Or.inl ⟨by rfl, ?_⟩) hHeld ?_ ?_
  rotate_left
  ·rintro w' ⟨s0, s1⟩
   go_simp
   with_reducible rfl
  rotate_left
  ·simp only [Act.put, List.setIfInBounds_toArray, List.set_cons_zero, List.set_cons_succ, i64_w, i32_w]
   rfl
  refine take_ (i := 1) (N := some 36) (v := ?_) (a' := ?_) #[true, true, false, false, false] rfl rfl (by kernel_rfl) (fun _ _ _ h => h) (Or.inl ⟨by rfl, ?_⟩) hHeld ?_ ?_
  rotate_left
  ·rintro w' ⟨s0, s1⟩
   go_simp
   with_reducible rfl
  rotate_left
  ·simp only [Act.put, List.setIfInBounds_toArray, List.set_cons_zero, List.set_cons_succ, i64_w, i32_w]
   rfl
  refine pure_ (i := 2) (N := some 2) (v := ?_) (a' := ?_) #[true, true, true, false, false] rfl rfl (by kernel_rfl) (fun _ _ _ h => h) (Or.inl ⟨by rfl, ?_⟩) ?_ ?_
  rotate_left
  ·intro w'
   go_simp
   with_reducible rfl
  rotate_left
  ·simp only [Act.put, List.setIfInBounds_toArray, List.set_cons_zero, List.set_cons_succ, i64_w, i32_w]
   rfl
  refine pure_ (i := 3) (N := some 3) (v := ?_) (a' := ?_) #[true, true, true, true, false] rfl rfl (by kernel_rfl) (fun _ _ _ h => h) (Or.inl ⟨by rfl, ?_⟩) ?_ ?_
  rotate_left
  ·intro w'
   go_simp
   with_reducible rfl
  rotate_left
  ·simp only [Act.put, List.setIfInBounds_toArray, List.set_cons_zero, List.set_cons_succ, i64_w, i32_w]
   rfl
  refine pure_ (i := 4) (N := some 4) (v := ?_) (a' := ?_) #[true, true, true, true, true] rfl rfl (by kernel_rfl) (fun _ _ _ h => h) (Or.inl ⟨by rfl, ?_⟩) ?_ ?_
  rotate_left
  ·intro w'
   go_simp
   with_reducible rfl
  rotate_left
  ·simp only [Act.put, List.setIfInBounds_toArray, List.set_cons_zero, List.set_cons_succ, i64_w, i32_w]
   rfl
  refine done_ (by kernel_rfl) ?_
  go_wp2
  go_ret3
  exact ⟨.inr ⟨HG.out.1, HG.out.2, A', c', rfl, Kd.R_mono (Kd.R_drew (HR7.out _)) (fun _ _ => trivial)⟩, (HB7.out _).drew⟩
 ·rw [if_neg hgood]
  have HG := Lib.hid hgood
  clear hgood
  go_wp2
  go_ret3
  exact ⟨.inl ⟨HG.out, rfl⟩, HB7.out _⟩

end Go.Proofs.YtcbmjmphicfgpaaGreatDoor.Tlv
end

section
set_option linter.unusedVariables false
set_option linter.unusedSimpArgs false
namespace Go.Proofs.YtcbmjmphicfgpaaGreatDoor.Tlv
open Go.RowKit Go.Proofs.YtcbmjmphicfgpaaGreatDoorW.PrintWords Go.Proofs.YtcbmjmphicfgpaaGreatDoorW.PrintLast Go.Proofs.YtcbmjmphicfgpaaGreatDoorW.PrintMore Go.Proofs.YtcbmjmphicfgpaaGreatDoor.PT

theorem must2_yes (w : World) : Calls Tryz.prog 84 #[.int .i64 0, .bool true] w fun e w' => e = .returned (.tuple #[]) ∧ w' = w := by
 have hnot : ∀ (x : Bool) (w : World), (Op.unary .not (.bool x)).run Tryz.prog w = .ok (.bool (!x)) w := fun _ _ => rfl
 go_enter Tryz.func84, Tryz.ntmps84
 go_wp2
 go_end0
 exact ⟨rfl, rfl⟩
theorem must2_no (f : Int) (b : Bool) (h : f ≠ 0 ∨ b = false) (w : World) : Calls Tryz.prog 84 #[.int .i64 f, .bool b] w fun e' w' => e' = gone 2 ∧ w' = w := by
 have hnot : ∀ (x : Bool) (w : World), (Op.unary .not (.bool x)).run Tryz.prog w = .ok (.bool (!x)) w := fun _ _ => rfl
 by_cases hf : f = 0
 ·subst hf
  have hb : b = false := by simpa using h
  subst hb
  go_enter Tryz.func84, Tryz.ntmps84
  go_wp2
  exact ⟨rfl, rfl, rfl⟩
 ·have h1 := eq_false hf
  have h2 : decide (f = 0) = false := decide_eq_false hf
  clear h hf
  go_enter Tryz.func84, Tryz.ntmps84
  go_wp2
  exact ⟨rfl, rfl, rfl⟩

theorem bits_some (t : List Int) (h : Int) (hh : 0 ≤ h ∧ h < 256) (ht : t.length ≤ 1000000) : ∃ (r : T) (r4 : Int), scalar_Bits.f t (wrap64 (wrap64 (8 * (t.length : Int)) - h)) = some (r.f0, r.f1, r.f2, r4) := by
 have e1 : wrap64 (8 * (t.length : Int)) = 8 * (t.length : Int) := by unfold wrap64; omega
 have e2 : wrap64 (8 * (t.length : Int) - h) = 8 * (t.length : Int) - h := by unfold wrap64; omega
 have e3 : wrap64 (8 * (t.length : Int) - (8 * (t.length : Int) - h)) = h := by unfold wrap64; omega
 have e4 : wrap64 ((t.length : Int) - 1) = (t.length : Int) - 1 := by unfold wrap64; omega
 rw [e1, e2]
 unfold scalar_Bits.f
 rw [e1, e3, e4]
 by_cases c1 : 8 * (t.length : Int) - h < 0
 ·rw [if_pos c1]; exact ⟨⟨_, _, _⟩, _, rfl⟩
 ·rw [if_neg c1, if_neg (by omega)]
  by_cases c2 : h > 7
  ·rw [if_pos c2]; exact ⟨⟨_, _, _⟩, _, rfl⟩
  ·rw [if_neg c2]
   have c5 : ∀ y : Int, ([y] : List Int).length + t.length < 140737488355328 := fun y => by simp; omega
   by_cases c3 : h > 0
   ·rw [if_pos c3, if_pos (by omega), if_pos (by omega), if_pos (by omega), Option.bind_some, if_pos (c5 _)]
    split
    ·exact ⟨⟨_, _, _⟩, _, rfl⟩
    ·exact ⟨⟨_, _, _⟩, _, rfl⟩
   ·rw [if_neg c3, Option.bind_some, if_pos (c5 _)]; exact ⟨⟨_, _, _⟩, _, rfl⟩
theorem bits_zero (t : List Int) (ht : t.length ≤ 1000000) : scalar_Bits.f t (wrap64 (wrap64 (8 * (t.length : Int)) - 0)) = some (3, 0 :: t, [], 0) := by
 have e1 : wrap64 (8 * (t.length : Int)) = 8 * (t.length : Int) := by unfold wrap64; omega
 have e2 : wrap64 (8 * (t.length : Int) - 0) = 8 * (t.length : Int) := by unfold wrap64; omega
 have e3 : wrap64 (8 * (t.length : Int) - 8 * (t.length : Int)) = 0 := by unfold wrap64; omega
 rw [e1, e2]
 unfold scalar_Bits.f
 rw [e1, e3, if_neg (by omega), if_neg (by omega), if_neg (by omega), if_neg (by omega)]
 have e4 : ([(0 : Int) % 256] : List Int).length + t.length < 140737488355328 := by simp; omega
 rw [Option.bind_some, if_pos e4]
 rfl
end Go.Proofs.YtcbmjmphicfgpaaGreatDoor.Tlv
end

section
set_option linter.unusedVariables false
set_option linter.unusedSimpArgs false
namespace Go.Proofs.YtcbmjmphicfgpaaGreatDoor.Tlv
open Go.RowKit Go.Proofs.YtcbmjmphicfgpaaGreatDoorW.PrintWords Go.Proofs.YtcbmjmphicfgpaaGreatDoorW.PrintLast Go.Proofs.YtcbmjmphicfgpaaGreatDoorW.PrintMore Go.Proofs.YtcbmjmphicfgpaaGreatDoor.PT
attribute [local go_sem] as_yes as_no

set_option maxHeartbeats 1000000 in
theorem wcatch_panicking (B : Nat) (x : Int) (w : World) (c0 : (w.cell? ⟨B, 0, none⟩).isSome = true) (f0 : w.frozen? ⟨B, 0, none⟩ = false) :
 CallsD Tryz.prog 119 #[.pointer (some ⟨B, 0, none⟩)] (.panicking [{ v := .iface 23 (.int .i64 x), recovered := false }]) w fun e u' w' =>
  e = .returned (.tuple #[]) ∧ u' = .panicking [{ v := .iface 23 (.int .i64 x), recovered := true }] ∧ w' = w.setCell ⟨B, 0, none⟩ (.int .i64 x) := by
 refine callsD_of_wpS Tryz.func119 rfl fun c₀ cs hu => ?_
 apply wpS_seq
 apply wpS_region
 simp [wpOpsS, go_sem, recoverD, hu, Tryz.ntmps119, Exit.thenS]
 apply wpS_seq
 apply wpS_region
 simp [wpOpsS, go_sem, Exit.thenS]
 refine wpS_cond (t := true) (by simp [Act.eval, Array.replicate]) ?_
 simp only [if_true]
 refine wpS_of_wp ?_
 obtain ⟨x0, e0⟩ := Option.isSome_iff_exists.1 c0
 clear c0
 go_wp2
 cases c₀
 simp_all [bodyPostS, results, Tryz.results119]

set_option maxHeartbeats 1000000 in
theorem wcatch_idle (B : Nat) (w : World) :
 CallsD Tryz.prog 119 #[.pointer (some ⟨B, 0, none⟩)] .returning w fun e u' w' => e = .returned (.tuple #[]) ∧ u' = .returning ∧ w' = w := by
 refine callsD_of_wpS Tryz.func119 rfl fun c₀ cs hu => ?_
 apply wpS_seq
 apply wpS_region
 simp [wpOpsS, go_sem, recoverD, hu, Tryz.ntmps119, Exit.thenS]
 apply wpS_seq
 apply wpS_region
 simp [wpOpsS, go_sem, Exit.thenS]
 refine wpS_cond (t := false) (by simp [Act.eval, Array.replicate]) ?_
 simp only [Bool.false_eq_true, if_false]
 refine wpS_of_wp (wp_skip ?_)
 cases c₀
 simp_all [bodyPostS, results, Tryz.results119]

set_option maxHeartbeats 4000000 in
set_option maxRecDepth 100000 in
theorem wdoor (x : Int) (w w4 : World) (R : Int → World → Prop) (hR : R x w4) (tmps : Array Value) (n0 : Value) (h2 : w4.heap[w.heap.size]? = some (.cells #[n0] 23 (0, 0))) (ht2 : tmps[2]? = some (.pointer (some ⟨w.heap.size, 0, none⟩))) :
 bodyPostD Tryz.prog Tryz.f82 (fun e w' => ∃ x w2, e = .returned (.int .i64 x) ∧ R x w2 ∧ w' = w2.setCell ⟨w.heap.size, 0, none⟩ (.int .i64 x)) (Exit.panic [{ v := .iface 23 (.int .i64 x), recovered := false }])
  { tmps := tmps, defers := [{ target := .fn (.func 119) #[.pointer (some ⟨w.heap.size, 0, none⟩)], args := #[] }] } w4 := by
 refine leaves_cons (f := 119) (args := #[.pointer (some ⟨w.heap.size, 0, none⟩)]) (by simp) (by simp [go_sem]) ?_
 have a0 := Lib.cell_of_heap h2 0
 refine (wcatch_panicking w.heap.size x w4 (by rw [a0]; rfl) (Lib.frozen_of_heap h2 0)).mono ?_
 rintro e u' w'' ⟨rfl, rfl, rfl⟩
 simp [Leaves, settle, results, Tryz.results82, go_sem, a0, ht2]
 exact ⟨_, hR, rfl⟩

set_option maxHeartbeats 4000000 in
set_option maxRecDepth 100000 in
theorem wdoor_ret (w w2 : World) (R : Int → World → Prop) (hR : R 0 w2) (tmps : Array Value) (n0 : Value) (h2 : w2.heap[w.heap.size]? = some (.cells #[n0] 23 (0, 0))) (ht2 : tmps[2]? = some (.pointer (some ⟨w.heap.size, 0, none⟩))) :
 bodyPostD Tryz.prog Tryz.f82 (fun e w' => ∃ x w2, e = .returned (.int .i64 x) ∧ R x w2 ∧ w' = w2.setCell ⟨w.heap.size, 0, none⟩ (.int .i64 x)) Exit.ret
  { tmps := tmps, defers := [{ target := .fn (.func 119) #[.pointer (some ⟨w.heap.size, 0, none⟩)], args := #[] }] } (w2.setCell ⟨w.heap.size, 0, none⟩ (.int .i64 0)) := by
 have a0 : (w2.setCell ⟨w.heap.size, 0, none⟩ (.int .i64 0)).cell? ⟨w.heap.size, 0, none⟩ = some (.int .i64 0) := Lib.cell_of_heap (heap_setCell_same _ _ 0 _ _ _ h2) 0
 refine leaves_cons (f := 119) (args := #[.pointer (some ⟨w.heap.size, 0, none⟩)]) (by simp) (by simp [go_sem]) ?_
 refine (wcatch_idle w.heap.size _).mono ?_
 rintro e u' w'' ⟨rfl, rfl, rfl⟩
 generalize hW : w2.setCell ⟨w.heap.size, 0, none⟩ (.int .i64 0) = W at a0
 simp only [Leaves, settle, results, Tryz.results82]
 simp [go_sem, a0, ht2]
 exact ⟨w2, hR, hW.symm⟩

end Go.Proofs.YtcbmjmphicfgpaaGreatDoor.Tlv
end

section
set_option linter.unusedVariables false
set_option linter.unusedSimpArgs false
namespace Go.Proofs.YtcbmjmphicfgpaaGreatDoor.Tlv
open Go.RowKit Go.Proofs.YtcbmjmphicfgpaaGreatDoorW.PrintWords Go.Proofs.YtcbmjmphicfgpaaGreatDoorW.PrintLast Go.Proofs.YtcbmjmphicfgpaaGreatDoorW.PrintMore Go.Proofs.YtcbmjmphicfgpaaGreatDoor.PT

theorem readP_ok {b : List Int} {x : T} (hb : ∀ v ∈ b, 0 ≤ v ∧ v < 256) (h : readP b = .ok x) : b = encT x ∧ rightT x = true ∧ sizeT x = (b.length : Int) ∧ deepT x ≤ 32 ∧ b.length ≤ 20000 := by
 unfold readP at h
 split at h
 ·cases h
 ·cases he : elemP (b.length + 1) 0 3 b with
  | err e => rw [he] at h; cases h
  | ok p =>
   obtain ⟨t, r⟩ := p
   rw [he] at h
   simp only at h
   split at h
   ·injection h with h
    subst h
    rename_i hr
    obtain ⟨e1, e2, e3, e4⟩ := elemP_ok _ _ _ _ _ _ hb he
    rw [hr, List.append_nil] at e1
    exact ⟨e1, e2, by rw [e3, ← e1], by omega, by omega⟩
   ·cases h
theorem kid_in : ∀ (l : List T) (t : T), t ∈ l → ∀ v ∈ encT t, v ∈ encL l
 | [], _, h => by cases h
 | u :: l, t, h => by
  intro v hv
  rw [encL]
  rcases List.mem_cons.1 h with rfl | h
  ·exact List.mem_append_left _ hv
  ·exact List.mem_append_right _ (kid_in l t h v hv)
theorem kid_size : ∀ (l : List T) (t : T), t ∈ l → sizeT t ≤ sizeL l
 | [], _, h => by cases h
 | u :: l, t, h => by
  rw [sizeL]
  have h1 := manyL_le l
  have h2 := many_le u
  rcases List.mem_cons.1 h with rfl | h
  ·omega
  ·have := kid_size l t h; omega
theorem kid_deep : ∀ (l : List T) (t : T), t ∈ l → deepT t ≤ deepL l
 | [], _, h => by cases h
 | u :: l, t, h => by
  rw [deepL]
  rcases List.mem_cons.1 h with rfl | h
  ·omega
  ·have := kid_deep l t h; omega
theorem kids_parts (x : T) (h : rightT x = true) (t : T) (ht : t ∈ x.f2) : rightT t = true ∧ sizeT t ≤ sizeT x ∧ (∀ v ∈ encT t, v ∈ encT x) ∧ deepT t ≤ deepT x := by
 obtain ⟨tag, body, kids⟩ := x
 dsimp only at ht
 rw [rightT, Bool.and_eq_true, Bool.and_eq_true] at h
 have hr := (rightL_all kids).1 h.2 t ht
 by_cases hH : holdsB tag = true
 ·have h1 := kid_size kids t ht
  have h2 := headLen_pos (sizeL kids)
  refine ⟨hr, ?_, ?_, ?_⟩
  ·rw [sizeT, if_pos hH]; omega
  ·intro v hv; rw [encT, if_pos hH]; exact List.mem_append_right _ (kid_in kids t ht v hv)
  ·rw [deepT, if_pos hH]; have := kid_deep kids t ht; omega
 ·rw [if_neg hH] at h
  have := of_decide_eq_true h.1.2
  rw [this] at ht
  cases ht

theorem lenP_rest {short : Int} {b r : List Int} {m : Int} (h : lenP short b = .ok (m, r)) : r.length + 1 ≤ b.length := by
 cases b with
 | nil => simp [lenP] at h
 | cons x b =>
  unfold lenP at h
  simp only at h
  split at h
  ·cases b with
   | nil => cases h
   | cons y b =>
    simp only at h
    split at h
    ·injection h with h; injection h with h1 h2; subst h2; simp
    ·cases h
  ·split at h
   ·cases b with
    | nil => cases h
    | cons y b =>
     cases b with
     | nil => cases h
     | cons z b =>
      simp only at h
      split at h
      ·injection h with h; injection h with h1 h2; subst h2; simp
      ·cases h
   ·split at h
    ·injection h with h; injection h with h1 h2; subst h2; simp
    ·cases h
theorem lenP_errs {short : Int} {b : List Int} {e : Int} (h : lenP short b = .err e) : e = short ∨ e = 2 := by
 cases b with
 | nil => simp [lenP] at h; exact .inl h.symm
 | cons x b =>
  unfold lenP at h
  simp only at h
  split at h
  ·cases b with
   | nil => injection h with h; exact .inl h.symm
   | cons y b =>
    simp only at h
    split at h
    ·cases h
    ·injection h with h; exact .inr h.symm
  ·split at h
   ·cases b with
    | nil => injection h with h; exact .inl h.symm
    | cons y b =>
     cases b with
     | nil => injection h with h; exact .inl h.symm
     | cons z b =>
      simp only at h
      split at h
      ·cases h
      ·injection h with h; exact .inr h.symm
   ·split at h
    ·cases h
    ·injection h with h; exact .inr h.symm
theorem elemP_rest {n : Nat} {deep short : Int} {b r : List Int} {t : T} (h : elemP n deep short b = .ok (t, r)) : r.length + 2 ≤ b.length := by
 cases n with
 | zero => simp [elemP] at h
 | succ n =>
  cases b with
  | nil => simp [elemP] at h
  | cons tag b =>
   unfold elemP at h
   split at h
   ·cases hl : lenP short b with
    | err e => rw [hl] at h; cases h
    | ok p =>
     obtain ⟨m, r2⟩ := p
     have hr := lenP_rest hl
     rw [hl] at h
     simp only at h
     split at h
     ·cases h
     ·split at h
      ·cases h
      ·split at h
       ·cases hk : kidsP n (deep + 1) (r2.take m.toNat) with
        | err e => rw [hk] at h; cases h
        | ok l => rw [hk] at h; injection h with h; injection h with h1 h2; subst h2; simp; omega
       ·injection h with h; injection h with h1 h2; subst h2; simp; omega
   ·cases h
mutual
theorem elemP_errs : ∀ (n : Nat) (deep short : Int) (b : List Int) (e : Int), b.length + 1 ≤ n → short ≠ 0 → elemP n deep short b = .err e → e ≠ 0
 | 0, _, _, b, e, hn, _, _ => by omega
 | n + 1, deep, short, [], e, _, hs, h => by
  simp [elemP] at h
  omega
 | n + 1, deep, short, tag :: b, e, hn, hs, h => by
  unfold elemP at h
  split at h
  ·cases hl : lenP short b with
   | err x =>
    rw [hl] at h
    injection h with h
    have := lenP_errs hl
    omega
   | ok p =>
    obtain ⟨m, r2⟩ := p
    have hr := lenP_rest hl
    rw [hl] at h
    simp only at h
    split at h
    ·injection h with h; omega
    ·split at h
     ·injection h with h; omega
     ·split at h
      ·cases hk : kidsP n (deep + 1) (r2.take m.toNat) with
       | err x =>
        rw [hk] at h
        injection h with h
        have := kidsP_errs n (deep + 1) (r2.take m.toNat) x (by simp at hn ⊢; omega) hk
        omega
       | ok l => rw [hk] at h; cases h
      ·cases h
  ·injection h with h; omega
theorem kidsP_errs : ∀ (n : Nat) (deep : Int) (b : List Int) (e : Int), b.length + 2 ≤ n → kidsP n deep b = .err e → e ≠ 0
 | 0, _, b, e, hn, _ => by omega
 | n + 1, deep, [], e, _, h => by simp [kidsP] at h
 | n + 1, deep, x :: b, e, hn, h => by
  unfold kidsP at h
  cases he : elemP n deep 2 (x :: b) with
  | err y =>
   rw [he] at h
   injection h with h
   have := elemP_errs n deep 2 (x :: b) y (by omega) (by decide) he
   omega
  | ok p =>
   obtain ⟨t, r⟩ := p
   have hr := elemP_rest he
   rw [he] at h
   simp only at h
   cases hk : kidsP n deep r with
   | err y =>
    rw [hk] at h
    injection h with h
    have := kidsP_errs n deep r y (by omega) hk
    omega
   | ok l => rw [hk] at h; cases h
end
theorem readP_errs {b : List Int} {e : Int} (h : readP b = .err e) : e ≠ 0 := by
 unfold readP at h
 split at h
 ·injection h with h; omega
 ·cases he : elemP (b.length + 1) 0 3 b with
  | err x =>
   rw [he] at h
   injection h with h
   have := elemP_errs _ _ _ _ _ (Nat.le_refl _) (by decide) he
   omega
  | ok p =>
   obtain ⟨t, r⟩ := p
   rw [he] at h
   simp only at h
   split at h
   ·cases h
   ·injection h with h; omega

end Go.Proofs.YtcbmjmphicfgpaaGreatDoor.Tlv
end

section
set_option linter.unusedVariables false
set_option linter.unusedSimpArgs false
namespace Go.Proofs.YtcbmjmphicfgpaaGreatDoor.Tlv
open Go.RowKit Go.Proofs.YtcbmjmphicfgpaaGreatDoorW.PrintWords Go.Proofs.YtcbmjmphicfgpaaGreatDoorW.PrintLast Go.Proofs.YtcbmjmphicfgpaaGreatDoorW.PrintMore Go.Proofs.YtcbmjmphicfgpaaGreatDoor.PT

theorem head_bytes (tag n : Int) : ∀ v ∈ head tag n, 0 ≤ v ∧ v < 256 := by
 intro v hv
 unfold head at hv
 split at hv
 ·simp at hv; omega
 ·split at hv <;> (simp at hv; omega)
end Go.Proofs.YtcbmjmphicfgpaaGreatDoor.Tlv
end

section
namespace Go.Proofs.YtcbmjmphicfgpaaGreatDoor.PT
open Go.RowKit Go.Proofs.YtcbmjmphicfgpaaGreatDoorW.PrintWords Go.Proofs.YtcbmjmphicfgpaaGreatDoorW.PrintLast Go.Proofs.YtcbmjmphicfgpaaGreatDoorW.PrintMore
attribute [local go_sem] max2_int min2_int max_two min_two max_three min_three max_four min_four   -- for this text's walks alone
set_option linter.unusedVariables false
set_option linter.unusedSimpArgs false

end Go.Proofs.YtcbmjmphicfgpaaGreatDoor.PT
end

section
set_option linter.unusedVariables false
set_option linter.unusedSimpArgs false
namespace Go.Proofs.YtcbmjmphicfgpaaGreatDoor.Tlv
open Go.RowKit Go.Proofs.YtcbmjmphicfgpaaGreatDoorW.PrintWords Go.Proofs.YtcbmjmphicfgpaaGreatDoorW.PrintLast Go.Proofs.YtcbmjmphicfgpaaGreatDoorW.PrintMore Go.Proofs.YtcbmjmphicfgpaaGreatDoor.PT

mutual
/-- All bodies are of bytes. -/
def byT : T → Prop
 | ⟨_, b, c⟩ => (∀ v ∈ b, 0 ≤ v ∧ v < 256) ∧ byL c
def byL : List T → Prop
 | [] => True
 | t :: l => byT t ∧ byL l
end
theorem byL_mem {l : List T} (h : byL l) : ∀ t ∈ l, byT t := by
 induction l with
 | nil => intro t ht; cases ht
 | cons u l ih =>
  rw [byL] at h
  intro t ht
  rcases List.mem_cons.1 ht with rfl | ht
  ·exact h.1
  ·exact ih h.2 t ht
theorem byT_mk {a : Int} {b : List Int} {c : List T} (h1 : ∀ v ∈ b, 0 ≤ v ∧ v < 256) (h2 : byL c) : byT ⟨a, b, c⟩ := ⟨h1, h2⟩
theorem byT_f1 {t : T} (h : byT t) : ∀ v ∈ t.f1, 0 ≤ v ∧ v < 256 := by obtain ⟨a, b, c⟩ := t; exact h.1
theorem byT_f2 {t : T} (h : byT t) : byL t.f2 := by obtain ⟨a, b, c⟩ := t; exact h.2

end Go.Proofs.YtcbmjmphicfgpaaGreatDoor.Tlv
end

section
set_option linter.unusedVariables false
set_option linter.unusedSimpArgs false
namespace Go.Proofs.YtcbmjmphicfgpaaGreatDoor.Tlv
open Go.RowKit Go.Proofs.YtcbmjmphicfgpaaGreatDoorW.PrintWords Go.Proofs.YtcbmjmphicfgpaaGreatDoorW.PrintLast Go.Proofs.YtcbmjmphicfgpaaGreatDoorW.PrintMore Go.Proofs.YtcbmjmphicfgpaaGreatDoor.PT

theorem head_cons (tag n : Int) (ht : 0 ≤ tag ∧ tag < 256) (hn : 0 ≤ n ∧ n < 65536) (short : Int) (r : List Int) : ∃ l, head tag n ++ r = tag :: l ∧ lenP short l = .ok (n, r) := by
 have e : tag % 256 = tag := by omega
 unfold head
 by_cases h1 : n < 128
 ·refine ⟨n % 256 :: r, by rw [if_pos h1, e]; rfl, ?_⟩
  have : n % 256 = n := by omega
  rw [this]
  unfold lenP
  dsimp only
  rw [if_neg (by omega), if_neg (by omega), if_pos h1]
 ·by_cases h2 : n < 256
  ·refine ⟨129 :: n % 256 :: r, by rw [if_neg h1, if_pos h2, e]; rfl, ?_⟩
   have : n % 256 = n := by omega
   rw [this]
   unfold lenP
   dsimp only
   rw [if_pos rfl, if_pos (by omega)]
  ·refine ⟨130 :: n / 256 % 256 :: n % 256 :: r, by rw [if_neg h1, if_neg h2, e]; rfl, ?_⟩
   unfold lenP
   dsimp only
   rw [if_neg (by decide), if_pos rfl, if_pos (by omega)]
   congr 2
   omega
mutual
theorem elemP_enc : ∀ (n : Nat) (t : T) (deep short : Int) (r : List Int), rightT t = true → sizeT t ≤ 60000 → 0 ≤ deep → deep + deepT t ≤ 32 → (encT t).length + 1 ≤ n → elemP n deep short (encT t ++ r) = .ok (t, r)
 | 0, t, _, _, _, _, _, _, _, hn => by omega
 | n + 1, ⟨tag, body, kids⟩, deep, short, r, hr, hs, h0, hd, hn => by
  have hsz := size_enc ⟨tag, body, kids⟩
  rw [rightT, Bool.and_eq_true, Bool.and_eq_true] at hr
  obtain ⟨⟨h1, h2⟩, h3⟩ := hr
  have ht := isTag_range h1
  have hm := manyL_le kids
  by_cases hH : holdsB tag = true
  ·rw [sizeT, if_pos hH] at hs
   rw [deepT, if_pos hH] at hd
   rw [encT, if_pos hH] at hn ⊢
   have hh := headLen_pos (sizeL kids)
   have hl := head_length tag (sizeL kids)
   have hsl := size_encL kids
   rw [if_pos hH] at h2
   have hb0 : body = [] := of_decide_eq_true h2
   subst hb0
   rw [List.length_append] at hn
   obtain ⟨l, e1, e2⟩ := head_cons tag (sizeL kids) ht (by omega) short (encL kids ++ r)
   rw [List.append_assoc, e1, elemP, if_pos h1, e2]
   dsimp only
   rw [if_neg (by rw [List.length_append]; omega), if_neg (by omega), if_pos hH]
   have et : (sizeL kids).toNat = (encL kids).length := by omega
   rw [et, List.take_left, List.drop_left]
   rw [kidsP_enc n kids (deep + 1) h3 (by omega) (by omega) (by omega) (by omega)]
  ·rw [sizeT, if_neg hH] at hs
   rw [deepT, if_neg hH] at hd
   rw [encT, if_neg hH] at hn ⊢
   have hh := headLen_pos (body.length : Int)
   rw [if_neg hH] at h2
   have hk0 : kids = [] := of_decide_eq_true h2
   subst hk0
   rw [List.length_append] at hn
   obtain ⟨l, e1, e2⟩ := head_cons tag (body.length : Int) ht (by omega) short (body ++ r)
   rw [List.append_assoc, e1, elemP, if_pos h1, e2]
   dsimp only
   rw [if_neg (by rw [List.length_append]; omega), if_neg (by omega), if_neg hH, Int.toNat_natCast, List.take_left, List.drop_left]
theorem kidsP_enc : ∀ (n : Nat) (l : List T) (deep : Int), rightL l = true → sizeL l ≤ 60000 → 0 ≤ deep → deep + deepL l ≤ 32 → (encL l).length + 2 ≤ n → kidsP n deep (encL l) = .ok l
 | 0, _, _, _, _, _, _, hn => by omega
 | n + 1, [], _, _, _, _, _, _ => by rw [encL, kidsP]
 | n + 1, t :: l, deep, hr, hs, h0, hd, hn => by
  rw [rightL, Bool.and_eq_true] at hr
  rw [sizeL] at hs
  rw [deepL] at hd
  have h1 := many_le t
  have h2 := manyL_le l
  rw [encL, List.length_append] at hn
  have h3 := encT_len t
  have he := elemP_enc n t deep 2 (encL l) hr.1 (by omega) h0 (by omega) (by omega)
  have hk := kidsP_enc n l deep hr.2 (by omega) h0 (by omega) (by omega)
  rw [encL]
  cases hx : encT t ++ encL l with
  | nil =>
   have := congrArg List.length hx
   rw [List.length_append, List.length_nil] at this
   omega
  | cons x b =>
   rw [hx] at he
   rw [kidsP, he]
   dsimp only
   rw [hk]
end
/-- What Write gives is read as it was. -/
theorem readP_write {t : T} {b : List Int} (h : writeP t = .ok b) : readP b = .ok t := by
 unfold writeP at h
 by_cases h1 : rightT t = false
 ·rw [if_pos h1] at h; cases h
 ·rw [if_neg h1] at h
  by_cases h2 : 32 < deepT t
  ·rw [if_pos h2] at h; cases h
  ·rw [if_neg h2] at h
   by_cases h3 : 20000 < sizeT t
   ·rw [if_pos h3] at h; cases h
   ·rw [if_neg h3] at h
    injection h with h
    subst h
    have hsz := size_enc t
    have := elemP_enc ((encT t).length + 1) t 0 3 [] (by simpa using h1) (by omega) (by decide) (by omega) (Nat.le_refl _)
    rw [List.append_nil] at this
    unfold readP
    rw [if_neg (by omega), this]
    rfl
end Go.Proofs.YtcbmjmphicfgpaaGreatDoor.Tlv
end

section
set_option linter.unusedVariables false
set_option linter.unusedSimpArgs false
namespace Go.Proofs.YtcbmjmphicfgpaaGreatDoor.Tlv
open Go.RowKit Go.Proofs.YtcbmjmphicfgpaaGreatDoorW.PrintWords Go.Proofs.YtcbmjmphicfgpaaGreatDoorW.PrintLast Go.Proofs.YtcbmjmphicfgpaaGreatDoorW.PrintMore Go.Proofs.YtcbmjmphicfgpaaGreatDoor.PT

mutual
theorem enc_by : ∀ t : T, byT t → ∀ v ∈ encT t, 0 ≤ v ∧ v < 256
 | ⟨tag, body, kids⟩, h => by
  rw [byT] at h
  intro v hv
  rw [encT] at hv
  by_cases hH : holdsB tag = true
  ·rw [if_pos hH] at hv
   rcases List.mem_append.1 hv with hv | hv
   ·exact head_bytes _ _ v hv
   ·exact encL_by kids h.2 v hv
  ·rw [if_neg hH] at hv
   rcases List.mem_append.1 hv with hv | hv
   ·exact head_bytes _ _ v hv
   ·exact h.1 v hv
theorem encL_by : ∀ l : List T, byL l → ∀ v ∈ encL l, 0 ≤ v ∧ v < 256
 | [], _ => by intro v hv; rw [encL] at hv; cases hv
 | t :: l, h => by
  rw [byL] at h
  intro v hv
  rw [encL] at hv
  rcases List.mem_append.1 hv with hv | hv
  ·exact enc_by t h.1 v hv
  ·exact encL_by l h.2 v hv
end
mutual
theorem by_enc : ∀ t : T, rightT t = true → (∀ v ∈ encT t, 0 ≤ v ∧ v < 256) → byT t
 | ⟨tag, body, kids⟩, h, hv => by
  rw [rightT, Bool.and_eq_true, Bool.and_eq_true] at h
  rw [encT] at hv
  rw [byT]
  by_cases hH : holdsB tag = true
  ·rw [if_pos hH] at hv h
   have : body = [] := of_decide_eq_true h.1.2
   exact ⟨(fun v hb => by rw [this] at hb; cases hb), byL_enc kids h.2 (fun v hk => hv v (List.mem_append_right _ hk))⟩
  ·rw [if_neg hH] at hv h
   have : kids = [] := of_decide_eq_true h.1.2
   refine ⟨fun v hb => hv v (List.mem_append_right _ hb), ?_⟩
   rw [this]
   trivial
theorem byL_enc : ∀ l : List T, rightL l = true → (∀ v ∈ encL l, 0 ≤ v ∧ v < 256) → byL l
 | [], _, _ => trivial
 | t :: l, h, hv => by
  rw [rightL, Bool.and_eq_true] at h
  rw [encL] at hv
  exact ⟨by_enc t h.1 (fun v hk => hv v (List.mem_append_left _ hk)), byL_enc l h.2 (fun v hk => hv v (List.mem_append_right _ hk))⟩
end
theorem writeP_ok {u : T} {l : List Int} (hu : writeP u = .ok l) : l = encT u ∧ rightT u = true ∧ deepT u ≤ 32 ∧ sizeT u ≤ 20000 := by
 unfold writeP at hu
 by_cases h1 : rightT u = false
 ·rw [if_pos h1] at hu; cases hu
 ·rw [if_neg h1] at hu
  by_cases h2 : 32 < deepT u
  ·rw [if_pos h2] at hu; cases hu
  ·rw [if_neg h2] at hu
   by_cases h3 : 20000 < sizeT u
   ·rw [if_pos h3] at hu; cases hu
   ·rw [if_neg h3] at hu
    injection hu with hu
    exact ⟨hu.symm, by simpa using h1, by omega, by omega⟩
end Go.Proofs.YtcbmjmphicfgpaaGreatDoor.Tlv
end

section
set_option linter.unusedVariables false
set_option linter.unusedSimpArgs false
namespace Go.Proofs.YtcbmjmphicfgpaaGreatDoor.Tlv
open Go.RowKit Go.Proofs.YtcbmjmphicfgpaaGreatDoorW.PrintWords Go.Proofs.YtcbmjmphicfgpaaGreatDoorW.PrintLast Go.Proofs.YtcbmjmphicfgpaaGreatDoorW.PrintMore Go.Proofs.YtcbmjmphicfgpaaGreatDoor.PT

/-- The bytes of bits, however many of them count. -/
def ofC (c : T) (t : List Int) (r : Int × List Int × List T × Int) : Option (List Int) := if r.2.2.2 = 0 ∧ sameB ⟨r.1, r.2.1, r.2.2.1⟩ c = true then some t else none
def ofH (c : T) (h : Int) (t : List Int) : Option (List Int) := (scalar_Bits.f t (wrap64 (wrap64 (8 * (t.length : Int)) - h))).bind (ofC c t)
def ofL (c : T) : List Int → Option (List Int)
 | [] => none
 | h :: t => ofH c h t
def ofP (c : T) : Option (List Int) := ofL c c.f1
def OfPost (w : World) (c : T) (e : Ending) (w' : World) : Prop := ∃ A l cc m f, e = .returned (.tuple #[.slice A (List.length l) cc, .int .i64 m, .int .i64 f]) ∧ ((f ≠ 0 ∧ ofP c = none) ∨ (f = 0 ∧ ofP c = some l)) ∧ (Kd.int .u8).R 5 w' w.heap.size (fun _ => True) (.slice A l.length cc) l ∧ Below w.heap.size w w'
theorem of_uni (c : T) (hv : ∀ v ∈ c.f1, 0 ≤ v ∧ v < 256) (hl : c.f1.length ≤ 1000000) (A1 : Option Addr) (c1 : Nat) (A2 : Option Addr) (c2 : Nat) (w : World) (hn : NodeAt w c A1 c1 A2 c2) :
 Calls Tryz.prog 85 #[.agg #[.int .i64 c.f0, .slice A1 c.f1.length c1, .slice A2 c.f2.length c2]] w (OfPost w c) := by
 cases hc : c.f1 with
 | nil =>
  have hx := of_none c hc A1 c1 A2 c2 w
  rw [hc] at hx
  refine hx.mono ?_
  rintro e w' ⟨rfl, hB⟩
  exact ⟨none, [], 0, 0, 2, rfl, .inl ⟨by decide, by unfold ofP; rw [hc]; rfl⟩, Kd.R_nil _ _ _ _ _, hB⟩
 | cons h t =>
  have hh := hv h (by rw [hc]; exact List.mem_cons_self)
  have ht : t.length ≤ 1000000 := by rw [hc, List.length_cons] at hl; omega
  obtain ⟨r, r4, hf⟩ := bits_some t h hh ht
  have hx := of_walk c h t hc hh ht r r4 hf A1 c1 A2 c2 w hn
  have ho : ofP c = if r4 = 0 ∧ sameB r c = true then some t else none := by
   have e1 : ofP c = ofH c h t := by unfold ofP; rw [hc]; rfl
   have e2 : ofC c t (r.f0, r.f1, r.f2, r4) = if r4 = 0 ∧ sameB ⟨r.f0, r.f1, r.f2⟩ c = true then some t else none := rfl
   rw [e1]
   unfold ofH
   rw [hf, Option.bind_some, e2, T_eta r]
  rw [hc] at hx
  refine hx.mono ?_
  rintro e w' ⟨hq, hB⟩
  rcases hq with ⟨hng, rfl⟩ | ⟨h4, hs, A, cc, rfl, hR⟩
  ·exact ⟨none, [], 0, 0, 2, rfl, .inl ⟨by decide, by rw [ho, if_neg hng]⟩, Kd.R_nil _ _ _ _ _, hB⟩
  ·exact ⟨A, t, cc, _, 0, rfl, .inr ⟨rfl, by rw [ho, if_pos ⟨h4, hs⟩]⟩, hR, hB⟩
theorem ofC_mem {c : T} {t u : List Int} {r : Int × List Int × List T × Int} (h : ofC c t r = some u) : u = t := by
 unfold ofC at h
 by_cases c1 : r.2.2.2 = 0 ∧ sameB ⟨r.1, r.2.1, r.2.2.1⟩ c = true
 ·rw [if_pos c1] at h; injection h with h; exact h.symm
 ·rw [if_neg c1] at h; cases h
theorem ofP_mem {c : T} {t : List Int} (h : ofP c = some t) : ∃ h0, c.f1 = h0 :: t := by
 unfold ofP at h
 cases hc : c.f1 with
 | nil => rw [hc] at h; cases h
 | cons h0 t' =>
  rw [hc] at h
  have h : ofH c h0 t' = some t := h
  unfold ofH at h
  obtain ⟨r, _, hr⟩ := Option.bind_eq_some_iff.1 h
  exact ⟨h0, by rw [ofC_mem hr]⟩
/-- What is read of an element that may be a key's. -/
def keyX (x n : T) : Option (List Int × Int) := match x.f2 with
 | [a, c] => match greatP a with
  | none => none
  | some l => match uintP c with
   | none => none
   | some u => if u < 4294967296 ∧ rightK l u = true ∧ sameP (nodeT l u) n = true then some (l, u) else none
 | _ => none
def keyP (n : T) : Option (List Int × Int) := match n.f2 with
 | [_, y] => match ofP y with
  | none => none
  | some b => match readP b with
   | .err _ => none
   | .ok x => keyX x n
 | _ => none
/-- The world while the closure runs: block q has the key. -/
structure KS (w0 w W : World) (q : Nat) (v0 v1 : Value) : Prop where
 b : Below w0.heap.size w0 W
 o : ∀ k, k < w.heap.size → k ≠ q → W.heap[k]? = w.heap[k]?
 h : W.heap[q]? = some (.cells #[v0, v1] 32 (0, 0))
 s : w.heap.size ≤ W.heap.size
theorem KS.step {w0 w W W2 : World} {q : Nat} {v0 v1 : Value} (h : KS w0 w W q v0 v1) (hB : Below W.heap.size W W2) : KS w0 w W2 q v0 v1 :=
 ⟨h.b.trans (hB.mono h.b.size), fun k hk hq => (hB.block k (by have := h.s; omega)).trans (h.o k hk hq), (hB.block _ (heap_lt h.h)).trans h.h, Nat.le_trans h.s hB.size⟩
theorem KS.set0 {w0 w W : World} {q : Nat} {v0 v1 : Value} (h : KS w0 w W q v0 v1) (hq : w0.heap.size ≤ q) (v : Value) : KS w0 w (W.setCell ⟨q, 0, none⟩ v) q v v1 :=
 ⟨Below.setCell h.b (p := ⟨q, 0, none⟩) hq v, fun k hk hne => (heap_setCell_other _ _ _ _ hne).trans (h.o k hk hne), heap_setCell_same _ _ 0 _ _ _ h.h, by have := h.s; simpa using this⟩
theorem KS.set1 {w0 w W : World} {q : Nat} {v0 v1 : Value} (h : KS w0 w W q v0 v1) (hq : w0.heap.size ≤ q) (v : Value) : KS w0 w (W.setCell ⟨q, 1, none⟩ v) q v0 v :=
 ⟨Below.setCell h.b (p := ⟨q, 1, none⟩) hq v, fun k hk hne => (heap_setCell_other _ _ _ _ hne).trans (h.o k hk hne), heap_setCell_same _ _ 1 _ _ _ h.h, by have := h.s; simpa using this⟩
def RdKPost (w0 w : World) (q : Nat) (n : T) (e : Ending) (w' : World) : Prop := ∃ v0 v1, KS w0 w w' q v0 v1 ∧ ((keyP n = none ∧ e = gone 2) ∨ (∃ l u A c, keyP n = some (l, u) ∧ e = .returned (.tuple #[]) ∧ v0 = .slice A (List.length l) c ∧ v1 = .int .u32 u ∧ (Kd.int .u8).R 5 w' w.heap.size (fun _ => True) (.slice A l.length c) l))
theorem kid_at {w : World} {A : Option Addr} {l : List T} (hk : k51.C w A l.length l) (i : Nat) (t : T) (ht : l[i]? = some t) :
 ∃ ad T1 t1 T2 t2, A = some ad ∧ w.cell? (ad.add (i * 3)) = some (.int .i64 t.f0) ∧ w.cell? (ad.add (i * 3 + 1)) = some (.slice T1 t.f1.length t1) ∧ w.cell? (ad.add (i * 3 + 2)) = some (.slice T2 t.f2.length t2) ∧ NodeAt w t T1 t1 T2 t2 := by
 obtain ⟨a, e, hcell⟩ := hk.2.2 (by have := (List.getElem?_eq_some_iff.1 ht).1; omega)
 obtain ⟨cs, h1, h2, h3⟩ := hcell i t ht
 obtain ⟨T1, t1, T2, t2, rfl, l1, g1, l2, g2⟩ := k51_open h2
 exact ⟨a, T1, t1, T2, t2, e, h3 0 _ rfl, h3 1 _ rfl, h3 2 _ rfl, g1, l1, g2, l2⟩

end Go.Proofs.YtcbmjmphicfgpaaGreatDoor.Tlv
end

section
set_option linter.unusedVariables false
set_option linter.unusedSimpArgs false
namespace Go.Proofs.YtcbmjmphicfgpaaGreatDoor.Tlv
open Go.RowKit Go.Proofs.YtcbmjmphicfgpaaGreatDoorW.PrintWords Go.Proofs.YtcbmjmphicfgpaaGreatDoorW.PrintLast Go.Proofs.YtcbmjmphicfgpaaGreatDoorW.PrintMore Go.Proofs.YtcbmjmphicfgpaaGreatDoor.PT

theorem keyP_len {n : T} (h : n.f2.length ≠ 2) : keyP n = none := by
 obtain ⟨a, b, c⟩ := n
 unfold keyP
 match c, h with
 | [], _ => rfl
 | [_], _ => rfl
 | [_, _], h => exact absurd rfl h
 | _ :: _ :: _ :: _, _ => rfl
theorem keyX_len {x n : T} (h : x.f2.length ≠ 2) : keyX x n = none := by
 obtain ⟨a, b, c⟩ := x
 unfold keyX
 match c, h with
 | [], _ => rfl
 | [_], _ => rfl
 | [_, _], h => exact absurd rfl h
 | _ :: _ :: _ :: _, _ => rfl
theorem keyP_two (tag : Int) (body : List Int) (z y : T) : keyP ⟨tag, body, [z, y]⟩ = match ofP y with
 | none => none
 | some b => match readP b with
  | .err _ => none
  | .ok x => keyX x ⟨tag, body, [z, y]⟩ := rfl
theorem keyX_two (tag : Int) (body : List Int) (a c n : T) : keyX ⟨tag, body, [a, c]⟩ n = match greatP a with
 | none => none
 | some l => match uintP c with
  | none => none
  | some u => if u < 4294967296 ∧ rightK l u = true ∧ sameP (nodeT l u) n = true then some (l, u) else none := rfl
theorem kids_in (x : T) (hr : rightT x = true) (hby : byT x) (hs : sizeT x ≤ 20000) (t : T) (ht : t ∈ x.f2) : (∀ v ∈ t.f1, 0 ≤ v ∧ v < 256) ∧ t.f1.length ≤ 20000 := by
 have h1 := kids_parts x hr t ht
 have h2 := wT_size t h1.1
 refine ⟨byT_f1 (byL_mem (byT_f2 hby) t ht), ?_⟩
 obtain ⟨a, b, c⟩ := t
 rw [wT] at h2
 have := wL_pos c
 dsimp only
 omega
theorem wT_f1 (t : T) : (t.f1.length : Int) ≤ wT t := by
 obtain ⟨a, b, c⟩ := t
 rw [wT]
 have := wL_pos c
 dsimp only
 omega
theorem wT_kid {n t : T} (h : t ∈ n.f2) : wT t ≤ wT n := by
 obtain ⟨a, b, c⟩ := n
 have := wL_mem c t h
 rw [wT]
 omega
theorem greatP_mem {n : T} {l : List Int} (h : greatP n = some l) : l = stripZ n.f1 := by
 unfold greatP at h
 by_cases c : n.f2 = [] ∧ sameB (bigT n.f1) n = true
 ·rw [if_pos c] at h; injection h with h; exact h.symm
 ·rw [if_neg c] at h; cases h
theorem wT_node (l : List Int) (E : Int) : wT (nodeT l E) ≤ 21000 := by
 unfold nodeT
 have h1 : wT (algT 1) = 12 := by decide
 have h2 : wT (bitT (ownB l E)) = 1 + ((0 :: ownB l E).length : Int) + 0 := by unfold bitT; rw [wT, wL]
 have h3 := ownB_len l E
 rw [wT, wL, wL, wL, h1, h2]
 simp only [List.length_cons, List.length_nil]
 omega

set_option maxHeartbeats 8000000 in
set_option maxRecDepth 100000 in
theorem rdk_walk (n : T) (hby : byT n) (hw : wT n ≤ 500000) (X1 : Option Addr) (x1 : Nat) (X2 : Option Addr) (x2 : Nat) (w0 w : World) (p q : Nat) (tp : TypeId) (hn : NodeAt w0 n X1 x1 X2 x2) (hB0 : Below w0.heap.size w0 w) (hq0 : w0.heap.size ≤ q)
 (hp : w.heap[p]? = some (.cells #[.int .i64 n.f0, .slice X1 n.f1.length x1, .slice X2 n.f2.length x2] tp (0, 0))) (hpq : p ≠ q) (hq : w.heap[q]? = some (.cells #[.slice none 0 0, .int .u32 0] 32 (0, 0))) :
 Calls Tryz.prog 83 #[.pointer (some ⟨p, 0, none⟩), .pointer (some ⟨q, 0, none⟩)] w (RdKPost w0 w q n) := by
 have K0 := Lib.hid (show KS w0 w w q (.slice none 0 0) (.int .u32 0) from ⟨hB0, fun _ _ _ => rfl, hq, Nat.le_refl _⟩)
 have HN := Lib.hid (fun W (hB : Below w0.heap.size w0 W) => hn.below hB)
 have HQ0 := Lib.hid hq0
 have HP := Lib.hid (fun W v0 v1 (K : KS w0 w W q v0 v1) => (K.o p (heap_lt hp) hpq).trans hp)
 have HBY := Lib.hid (And.intro hby hw)
 have HPQ := Lib.hid (And.intro (heap_lt hp) (heap_lt hq))
 have p2 := Lib.cell_of_heap hp 2
 generalize hPP : RdKPost w0 w q n = PP
 have HPP := Lib.hid hPP
 clear hby hw hn hB0 hq0 hp hq hPP hpq
 by_cases h2 : n.f2.length = 2
 ·obtain ⟨tag, body, kids⟩ := n
  obtain ⟨z, y, rfl⟩ : ∃ z y, kids = [z, y] := by
   match kids, h2 with
   | [z, y], _ => exact ⟨z, y, rfl⟩
  clear h2
  have e2 : ([z, y] : List S51).length = 2 := rfl
  dsimp only at HN HP HBY HPP p2
  obtain ⟨ad, Y1, y1, Y2, y2, hX2, u0, u1, u2, hny⟩ := kid_at (HN.out w K0.out.b).2.2.1 1 y rfl
  subst hX2
  replace u0 : w.cell? ⟨ad.block, ad.off + 3, none⟩ = some (.int .i64 y.f0) := u0
  replace u1 : w.cell? ⟨ad.block, ad.off + 3 + 1, none⟩ = some (.slice Y1 y.f1.length y1) := u1
  replace u2 : w.cell? ⟨ad.block, ad.off + 3 + 2, none⟩ = some (.slice Y2 y.f2.length y2) := u2
  have hyb : ∀ v ∈ y.f1, 0 ≤ v ∧ v < 256 := byT_f1 (byL_mem (byT_f2 HBY.out.1) y (by simp))
  have hyw : wT y ≤ 500000 := Int.le_trans (wT_kid (n := ⟨tag, body, [z, y]⟩) (t := y) (by simp)) HBY.out.2
  have hyl := wT_f1 y
  have HOF := Lib.hid (of_uni y hyb (by omega) Y1 y1 Y2 y2 w hny)
  have HYB := Lib.hid (And.intro hyb (show y.f1.length ≤ 500000 by omega))
  rw [e2] at p2
  clear hny hyb hyw hyl e2
  go_enter Tryz.func83, Tryz.ntmps83
  go_wp2_with (fail)
  refine (must2_yes _).mono ?_
  rintro e w2 ⟨rfl, rfl⟩
  go_wp2_with (fail)
  refine HOF.out.mono ?_
  rintro e w3 ⟨B, b, cb, m, f, rfl, hof, hR3, hB3⟩
  have K3 := Lib.hid (K0.out.step hB3)
  clear HOF u0 u1 u2 p2 hB3 K0
  rcases hof with ⟨hf, hof⟩ | ⟨rfl, hof⟩
  ·have HK : Hid (keyP ⟨tag, body, [z, y]⟩ = none) := Lib.hid (by rw [keyP_two, hof])
   have hf1 := eq_false hf
   clear hof hR3
   go_wp2_with (fail)
   refine (must2_no f true (.inl hf) _).mono ?_
   rintro e w4 ⟨rfl, rfl⟩
   have hPP := HPP.out
   subst hPP
   exact ⟨rfl, _, _, K3.out, .inl ⟨HK.out, rfl⟩⟩
  ·have HOFP := Lib.hid hof
   obtain ⟨h0, hyt⟩ := ofP_mem hof
   have hbb : ∀ v ∈ b, 0 ≤ v ∧ v < 256 := fun v hv => HYB.out.1 v (by rw [hyt]; exact List.mem_cons_of_mem _ hv)
   have hbl : b.length ≤ 500000 := by have := HYB.out.2; rw [hyt] at this; simp at this; omega
   obtain ⟨_, _, f1, g1, k1⟩ := Kd.R_reads hR3
   injection f1 with f1 _ f1'
   subst f1 f1'
   have HREAD := Lib.hid (read_walk B cb b w3 (reads_of_C k1) g1 hbb (by omega))
   have HBB := Lib.hid hbb
   clear hof hR3 hyt hbb hbl g1 k1 HYB
   go_wp2_with (fail)
   refine (must2_yes _).mono ?_
   rintro e w4 ⟨rfl, rfl⟩
   go_wp2_with (fail)
   refine HREAD.out.mono ?_
   intro e w5 hp5
   unfold ReadPost at hp5
   clear HREAD
   cases hrd : readP b with
   | err ex =>
    rw [hrd] at hp5
    obtain ⟨rfl, hB5⟩ := hp5
    have hne := readP_errs hrd
    have HK : Hid (keyP ⟨tag, body, [z, y]⟩ = none) := Lib.hid (by rw [keyP_two, HOFP.out]; simp only; rw [hrd])
    have K5 := Lib.hid ((K3.out.step hB5).step (W2 := w5.alloc (.cells #[.int .i64 0, .slice none 0 0, .slice none 0 0] 51)) ((Below.refl _ _).alloc (Nat.le_refl _) _))
    have hne1 := eq_false hne
    clear hB5 hrd hne1
    go_wp2_with (fail)
    refine (must2_no ex false (.inl hne) _).mono ?_
    rintro e w6 ⟨rfl, rfl⟩
    have hPP := HPP.out
    subst hPP
    exact ⟨rfl, _, _, K5.out, .inl ⟨HK.out, rfl⟩⟩
   | ok x =>
    rw [hrd] at hp5
    obtain ⟨v1, v2, rfl, hv1, hv2, hB5⟩ := hp5
    obtain ⟨b1, b2, b3, b4, b5⟩ := readP_ok HBB.out hrd
    have hbx := by_enc x b2 (fun v hv => HBB.out v (by rw [b1]; exact hv))
    have hin := kids_in x b2 hbx (by omega)
    have hnr := NodeR.of (n := x) hv1 hv2
    obtain ⟨Z1, z1, Z2, z2, rfl, rfl, hnx⟩ := hnr.form
    have hal : Below w5.heap.size w5 (w5.alloc (.cells #[.int .i64 x.f0, .slice Z1 x.f1.length z1, .slice Z2 x.f2.length z2] 51)) := (Below.refl _ _).alloc (Nat.le_refl _) _
    have hg6 : (w5.alloc (.cells #[.int .i64 x.f0, .slice Z1 x.f1.length z1, .slice Z2 x.f2.length z2] 51)).heap[w5.heap.size]? = some (.cells #[.int .i64 x.f0, .slice Z1 x.f1.length z1, .slice Z2 x.f2.length z2] 51 (0, 0)) := heap_alloc_new w5 _
    have hs6 : (w5.alloc (.cells #[.int .i64 x.f0, .slice Z1 x.f1.length z1, .slice Z2 x.f2.length z2] 51)).heap.size = w5.heap.size + 1 := by simp
    have HREADP := Lib.hid hrd
    have HSZ := Lib.hid (And.intro K3.out.s (And.intro hB5.size HPQ.out.2))
    by_cases h2 : x.f2.length = 2
    ·obtain ⟨xt, xb, xk⟩ := x
     obtain ⟨a, c, rfl⟩ : ∃ a c, xk = [a, c] := by
      match xk, h2 with
      | [a, c], _ => exact ⟨a, c, rfl⟩
     clear h2
     have e2 : ([a, c] : List S51).length = 2 := rfl
     dsimp only at hal hg6 hs6 hnr hnx hin ⊢
     rw [e2] at hal hg6 hs6 ⊢
     have hina := hin a (by simp)
     have hinc := hin c (by simp)
     have K6 := (K3.out.step hB5).step hal
     have hn6 := hnr.below hal
     generalize hw6 : w5.alloc (.cells #[.int .i64 xt, .slice Z1 xb.length z1, .slice Z2 2 z2] 51) = w6 at hal hg6 hs6 K6 hn6
     obtain ⟨ae, A1, a1, A2, a2, hZ2, s0, s1, s2, hna⟩ := kid_at (hn6.at (n := ⟨xt, xb, [a, c]⟩)).2.2.1 0 a rfl
     subst hZ2
     replace s0 : w6.cell? ae = some (.int .i64 a.f0) := s0
     replace s1 : w6.cell? ⟨ae.block, ae.off + 1, none⟩ = some (.slice A1 a.f1.length a1) := s1
     replace s2 : w6.cell? ⟨ae.block, ae.off + 2, none⟩ = some (.slice A2 a.f2.length a2) := s2
     have g2 := Lib.cell_of_heap hg6 2
     have HKEEP : Hid (∀ W, (∀ k, w4.heap.size ≤ k → k < w6.heap.size → W.heap[k]? = w6.heap[k]?) → W.cell? ⟨w5.heap.size, 2, none⟩ = some (.slice (some ae) 2 z2) ∧ ∃ C1 c1 C2 c2, W.cell? ⟨ae.block, ae.off + 3, none⟩ = some (.int .i64 c.f0) ∧ W.cell? ⟨ae.block, ae.off + 3 + 1, none⟩ = some (.slice C1 c.f1.length c1) ∧ W.cell? ⟨ae.block, ae.off + 3 + 2, none⟩ = some (.slice C2 c.f2.length c2) ∧ NodeAt W c C1 c1 C2 c2) := by
      refine Lib.hid (fun W hW => ?_)
      have h35 := hB5.size
      have hgW := (hW w5.heap.size h35 (by omega)).trans hg6
      have hnW : NodeR W w4.heap.size w5.heap.size ⟨xt, xb, [a, c]⟩ (.slice Z1 xb.length z1) (.slice (some ae) 2 z2) := hn6.move (fun k hk1 hk2 => hW k hk1 (by omega))
      obtain ⟨ae', C1, c1, C2, c2, e', t0, t1, t2, hnc⟩ := kid_at (hnW.at (n := ⟨xt, xb, [a, c]⟩)).2.2.1 1 c rfl
      injection e' with e'
      subst e'
      exact ⟨Lib.cell_of_heap hgW 2, C1, c1, C2, c2, t0, t1, t2, hnc⟩
     have HGREAT := Lib.hid (great_walk a hina.1 (by omega) A1 a1 A2 a2 w6 hna)
     have K6 := Lib.hid K6
     have HINC := Lib.hid (And.intro hina hinc)
     have HS6 := Lib.hid (And.intro hal.size (And.intro hB5.size hs6))
     subst hw6
     clear hal hg6 hs6 hn6 hna hina hinc hin hnr hnx hv1 hv2 hB5 b1 b2 b3 b4 b5 hbx hrd e2 K3
     go_wp2_with (fail)
     refine (must2_yes _).mono ?_
     rintro e w6' ⟨rfl, rfl⟩
     go_wp2_with (fail)
     refine HGREAT.out.mono ?_
     rintro e w7 ⟨N, l, cn, ex, rfl, hg, hRN, hB7⟩
     have K7 := K6.out.step hB7
     have q0 := Lib.cell_of_heap K7.h 0
     have q1 := Lib.cell_of_heap K7.h 1
     have f0 := Lib.frozen_of_heap K7.h 0
     have K8 := K7.set0 HQ0.out (.slice N l.length cn)
     have hqb := HSZ.out.2.2
     have hs6 := HS6.out
     have hC8 : ∀ k, w4.heap.size ≤ k → k < (w5.alloc (.cells #[.int .i64 xt, .slice Z1 xb.length z1, .slice (some ae) 2 z2] 51)).heap.size → (w7.setCell ⟨q, 0, none⟩ (.slice N l.length cn)).heap[k]? = (w5.alloc (.cells #[.int .i64 xt, .slice Z1 xb.length z1, .slice (some ae) 2 z2] 51)).heap[k]? := fun k hk1 hk2 =>
      (heap_setCell_other _ _ _ _ (by show k ≠ q; have := HSZ.out.1; omega)).trans (hB7.block k hk2)
     have hR8 : (Kd.int .u8).R 5 (w7.setCell ⟨q, 0, none⟩ (.slice N l.length cn)) (w5.alloc (.cells #[.int .i64 xt, .slice Z1 xb.length z1, .slice (some ae) 2 z2] 51)).heap.size (fun k => q < k) (.slice N l.length cn) l :=
      Kd.R_move (Kd.R_mono (Kd.R_bound hRN) (fun k hk => by have := hk.2.1; have := HSZ.out.1; have := HS6.out.1; have := HS6.out.2.1; omega)) (fun k hk => heap_setCell_other _ _ _ _ (by show k ≠ q; omega))
     have K8 := Lib.hid K8
     have HR8 := Lib.hid hR8
     have HC8 := Lib.hid hC8
     have HG := Lib.hid hg
     have HS8 : Hid ((w5.alloc (.cells #[.int .i64 xt, .slice Z1 xb.length z1, .slice (some ae) 2 z2] 51)).heap.size ≤ (w7.setCell ⟨q, 0, none⟩ (.slice N l.length cn)).heap.size) := Lib.hid (by simpa using hB7.size)
     clear K7 hC8 hR8 hRN hB7 hg HGREAT K6 s0 s1 s2 g2 hqb hs6
     have HKE := HG.out
     rcases HKE with ⟨rfl, hgp⟩ | ⟨rfl, hgp, rfl⟩
     ·have HGP := Lib.hid hgp
      clear hgp HG
      go_wp2_with (fail)
      refine (must2_yes _).mono ?_
      rintro e w8' ⟨rfl, rfl⟩
      obtain ⟨t2, C1, c1, C2, c2, r0, r1, r2, hnc⟩ := HKEEP.out _ HC8.out
      have HUINT := Lib.hid (uint_walk c HINC.out.2.1 (by have := HINC.out.2.2; omega) C1 c1 C2 c2 _ hnc)
      clear hnc q0 q1 f0
      generalize w7.setCell ⟨q, 0, none⟩ (.slice N l.length cn) = w8 at K8 HR8 HC8 HS8 t2 r0 r1 r2 HUINT ⊢
      go_wp2_with (fail)
      refine HUINT.out.mono ?_
      rintro e w9 ⟨he, hB9⟩
      have K9 := Lib.hid (K8.out.step hB9)
      have HR9 := Lib.hid (Kd.R_below HR8.out hB9)
      clear HUINT t2 r0 r1 r2 hB9 HR8 HC8
      cases hu : uintP c with
      | none =>
       rw [hu] at he
       subst he
       have HK : Hid (keyP ⟨tag, body, [z, y]⟩ = none) := Lib.hid (by rw [keyP_two, HOFP.out]; simp only; rw [HREADP.out]; simp only; rw [keyX_two, HGP.out]; simp only; rw [hu])
       clear hu
       go_wp2_with (fail)
       refine (must2_no 2 true (.inl (by decide)) _).mono ?_
       rintro e w10 ⟨rfl, rfl⟩
       have hPP := HPP.out
       subst hPP
       exact ⟨rfl, _, _, K9.out, .inl ⟨HK.out, rfl⟩⟩
      | some u =>
       rw [hu] at he
       subst he
       have hur : 0 ≤ u ∧ u < 18446744073709551616 := by
        unfold uintP at hu
        cases hq : numP c.f1 with
        | none => rw [hq] at hu; cases hu
        | some x =>
         rw [hq] at hu
         simp only at hu
         by_cases hs : sameB (intT x) c = true
         ·rw [if_pos hs] at hu; injection hu with hu; subst hu; exact numP_range c.f1 x HINC.out.2.1 hq
         ·rw [if_neg hs] at hu; cases hu
       have HU := Lib.hid hu
       clear hu
       by_cases h32 : u < 4294967296
       ·have hd : u / 4294967296 = 0 := by omega
        have hd1 : (u / 4294967296 == 0) = true := beq_iff_eq.2 hd
        have hd2 : decide (u / 4294967296 = 0) = true := decide_eq_true hd
        have hwu : IntKind.u32.wrap u = u := by rw [IntKind.wrap_u32]; omega
        have hmu : u % 4294967296 = u := by omega
        have hu0 := hur.1
        have hu1 := hur.2
        have HUR := Lib.hid (And.intro hur.1 h32)
        have hl := greatP_mem HGP.out
        have hlv : ∀ v ∈ l, 0 ≤ v ∧ v < 256 := by rw [hl]; exact fun v hv => HINC.out.1.1 v (stripZ_mem a.f1 v hv)
        have hll : l.length ≤ 100000 := by rw [hl]; have := stripZ_len a.f1; have := HINC.out.1.2; omega
        have hR10 : (Kd.int .u8).R 5 (w9.setCell ⟨q, 1, none⟩ (.int .u32 u)) _ (fun k => q < k) (.slice N l.length cn) l := Kd.R_move HR9.out (fun k hk => heap_setCell_other _ _ _ _ (by show k ≠ q; omega))
        have K10 := Lib.hid (K9.out.set1 HQ0.out (.int .u32 u))
        obtain ⟨_, _, f1', g1, k1⟩ := Kd.R_reads hR10
        injection f1' with f1' _ f2'
        subst f1' f2'
        have HNODE := Lib.hid (node_walk l u hll hlv hu0 h32 N cn _ k1 g1)
        have HR10 := Lib.hid hR10
        have q0 := Lib.cell_of_heap K9.out.h 0
        have q1 := Lib.cell_of_heap K9.out.h 1
        have f0 := Lib.frozen_of_heap K9.out.h 0
        have f1 := Lib.frozen_of_heap K9.out.h 1
        clear hl hlv hll hR10 g1 k1 hur h32
        go_wp2_with (fail)
        refine (must2_yes _).mono ?_
        rintro e w10' ⟨rfl, rfl⟩
        go_wp2_with (fail)
        refine HNODE.out.mono ?_
        rintro e w11 ⟨v1, v2, n', x', rfl, hN', hcase, hB11⟩
        obtain ⟨M1, m1, M2, m2, rfl, rfl, hnn⟩ := hN'.form
        have K11 := K10.out.step hB11
        have hal : Below w11.heap.size w11 (w11.alloc (.cells #[.int .i64 n'.f0, .slice M1 n'.f1.length m1, .slice M2 n'.f2.length m2] 51)) := (Below.refl _ _).alloc (Nat.le_refl _) _
        have hm12 : (w11.alloc (.cells #[.int .i64 n'.f0, .slice M1 n'.f1.length m1, .slice M2 n'.f2.length m2] 51)).heap[w11.heap.size]? = some (.cells #[.int .i64 n'.f0, .slice M1 n'.f1.length m1, .slice M2 n'.f2.length m2] 51 (0, 0)) := heap_alloc_new w11 _
        have K12 := Lib.hid (K11.step hal)
        have hp12 := HP.out _ _ _ K12.out
        have hwn : wT n' ≤ 21000 := by
         rcases hcase with ⟨_, _, rfl⟩ | ⟨_, _, rfl⟩
         ·exact wT_node l u
         ·decide
        have HSAME := Lib.hid (same_walk n' ⟨tag, body, [z, y]⟩ (fun _ => by have := size_wT n'; omega) (fun _ => by have := size_wT ⟨tag, body, [z, y]⟩; have := HBY.out.2; omega) M1 m1 M2 m2 X1 x1 (some ad) x2 _ (hnn.below hal) (HN.out _ K12.out.b))
        have HR12 := Lib.hid (Kd.R_below (Kd.R_below HR10.out hB11) hal)
        have HCASE := Lib.hid hcase
        have m0 := Lib.cell_of_heap hm12 0
        have m1' := Lib.cell_of_heap hm12 1
        have m2' := Lib.cell_of_heap hm12 2
        have p0 := Lib.cell_of_heap hp12 0
        have p1 := Lib.cell_of_heap hp12 1
        have p2 := Lib.cell_of_heap hp12 2
        have e2 : ([z, y] : List S51).length = 2 := rfl
        rw [e2] at p2
        dsimp only at HSAME
        rw [e2] at HSAME
        clear hN' hnn K11 hal hm12 hp12 hwn hcase HNODE q0 q1 f0 f1 hB11 K10 HR10 K9 HR9 e2
        go_wp2_with (fail)
        refine HSAME.out.mono ?_
        rintro e w13 ⟨rfl, hB13⟩
        have K13 := Lib.hid (K12.out.step hB13)
        have HR13 := Lib.hid (Kd.R_below HR12.out hB13)
        clear HSAME m0 m1' m2' p0 p1 p2 hB13 HR12 K12
        have hcase := HCASE.out
        rcases hcase with ⟨rfl, hrk, rfl⟩ | ⟨rfl, hrk, rfl⟩
        ·have HRK := Lib.hid hrk
         have HKX : Hid (keyP ⟨tag, body, [z, y]⟩ = if u < 4294967296 ∧ rightK l u = true ∧ sameP (nodeT l u) ⟨tag, body, [z, y]⟩ = true then some (l, u) else none) := Lib.hid (by rw [keyP_two, HOFP.out]; simp only; rw [HREADP.out]; simp only; rw [keyX_two, HGP.out]; simp only; rw [HU.out])
         clear hrk HCASE
         cases hs : sameP (nodeT l u) ⟨tag, body, [z, y]⟩ with
         | true =>
          have HS := Lib.hid hs
          clear hs
          go_wp2_with (fail)
          refine (must2_yes _).mono ?_
          rintro e w14 ⟨rfl, rfl⟩
          go_wp2
          go_end0
          have hPP := HPP.out
          subst hPP
          exact ⟨_, _, K13.out, .inr ⟨l, u, N, cn, by rw [HKX.out, if_pos ⟨HUR.out.2, HRK.out, HS.out⟩], rfl, rfl, rfl, Kd.R_lower (Kd.R_mono HR13.out (fun _ _ => trivial)) (by have := HSZ.out.1; have := HS6.out.1; have := HS6.out.2.1; omega)⟩⟩
         | false =>
          have HK : Hid (keyP ⟨tag, body, [z, y]⟩ = none) := Lib.hid (by rw [HKX.out, if_neg (fun h => by rw [hs] at h; cases h.2.2)])
          clear hs
          go_wp2_with (fail)
          refine (must2_no 0 false (.inr rfl) _).mono ?_
          rintro e w14 ⟨rfl, rfl⟩
          have hPP := HPP.out
          subst hPP
          exact ⟨rfl, _, _, K13.out, .inl ⟨HK.out, rfl⟩⟩
        ·have HK : Hid (keyP ⟨tag, body, [z, y]⟩ = none) := Lib.hid (by rw [keyP_two, HOFP.out]; simp only; rw [HREADP.out]; simp only; rw [keyX_two, HGP.out]; simp only; rw [HU.out]; simp only; rw [if_neg (fun h => by rw [hrk] at h; cases h.2.1)])
         clear hrk HCASE
         go_wp2_with (fail)
         refine (must2_no 1 _ (.inl (by decide)) _).mono ?_
         rintro e w14 ⟨rfl, rfl⟩
         have hPP := HPP.out
         subst hPP
         exact ⟨rfl, _, _, K13.out, .inl ⟨HK.out, rfl⟩⟩
       ·have hd : u / 4294967296 ≠ 0 := by omega
        have hd1 := eq_false hd
        have hd2 : (u / 4294967296 == 0) = false := beq_eq_false_iff_ne.2 hd
        have hd3 : decide (u / 4294967296 = 0) = false := decide_eq_false hd
        have HK : Hid (keyP ⟨tag, body, [z, y]⟩ = none) := Lib.hid (by rw [keyP_two, HOFP.out]; simp only; rw [HREADP.out]; simp only; rw [keyX_two, HGP.out]; simp only; rw [HU.out]; simp only; rw [if_neg (fun h => h32 h.1)])
        have hu0 := hur.1
        have hu1 := hur.2
        clear hd h32 hur
        go_wp2_with (fail)
        refine (must2_no 0 false (.inr rfl) _).mono ?_
        rintro e w10 ⟨rfl, rfl⟩
        have hPP := HPP.out
        subst hPP
        exact ⟨rfl, _, _, K9.out, .inl ⟨HK.out, rfl⟩⟩
     ·have HK : Hid (keyP ⟨tag, body, [z, y]⟩ = none) := Lib.hid (by rw [keyP_two, HOFP.out]; simp only; rw [HREADP.out]; simp only; rw [keyX_two, hgp])
      have el : ([] : List Int).length = 0 := rfl
      clear hgp HG
      go_wp2_with (fail)
      refine (must2_no 2 true (.inl (by decide)) _).mono ?_
      rintro e w8' ⟨rfl, rfl⟩
      have hPP := HPP.out
      subst hPP
      exact ⟨rfl, _, _, K8.out, .inl ⟨HK.out, rfl⟩⟩
    ·have hl1 : ((x.f2.length : Int) == 2) = false := beq_eq_false_iff_ne.2 (by omega)
     have HK : Hid (keyP ⟨tag, body, [z, y]⟩ = none) := Lib.hid (by rw [keyP_two, HOFP.out]; simp only; rw [HREADP.out]; simp only; rw [keyX_len h2])
     have K6 := Lib.hid ((K3.out.step hB5).step hal)
     clear hal hg6 hs6 hnr hnx hv1 hv2 hB5 b1 b2 b3 b4 b5 hbx hrd h2 hin
     go_wp2_with (fail)
     refine (must2_no 0 false (.inr rfl) _).mono ?_
     rintro e w7 ⟨rfl, rfl⟩
     have hPP := HPP.out
     subst hPP
     exact ⟨rfl, _, _, K6.out, .inl ⟨HK.out, rfl⟩⟩
 ·have hl1 : ((n.f2.length : Int) == 2) = false := beq_eq_false_iff_ne.2 (by omega)
  have HK := Lib.hid (keyP_len h2)
  clear h2
  go_enter Tryz.func83, Tryz.ntmps83
  go_wp2_with (fail)
  refine (must2_no 0 false (.inr rfl) _).mono ?_
  rintro e w2 ⟨rfl, rfl⟩
  have hPP := HPP.out
  subst hPP
  exact ⟨rfl, _, _, K0.out, .inl ⟨HK.out, rfl⟩⟩

end Go.Proofs.YtcbmjmphicfgpaaGreatDoor.Tlv
end

section
set_option linter.unusedVariables false
set_option linter.unusedSimpArgs false
namespace Go.Proofs.YtcbmjmphicfgpaaGreatDoor.Tlv
open Go.RowKit Go.Proofs.YtcbmjmphicfgpaaGreatDoorW.PrintWords Go.Proofs.YtcbmjmphicfgpaaGreatDoorW.PrintLast Go.Proofs.YtcbmjmphicfgpaaGreatDoorW.PrintMore Go.Proofs.YtcbmjmphicfgpaaGreatDoor.PT

set_option maxHeartbeats 4000000 in
set_option maxRecDepth 100000 in
theorem wrongK_walk (p q : Nat) (w : World) (R : Int → World → Prop)
 (H : Calls Tryz.prog 83 #[.pointer (some ⟨p, 0, none⟩), .pointer (some ⟨q, 0, none⟩)] (w.alloc (.cells #[.int .i64 0] 23)) fun e w2 => ((e = .returned (.tuple #[]) ∧ R 0 w2) ∨ (∃ x, e = gone x ∧ R x w2)) ∧ w2.heap[w.heap.size]? = some (.cells #[.int .i64 0] 23 (0, 0))) :
 Calls Tryz.prog 82 #[.func (.func 83) #[] #[.pointer (some ⟨p, 0, none⟩), .pointer (some ⟨q, 0, none⟩)]] w fun e w' => ∃ x w2, e = .returned (.int .i64 x) ∧ R x w2 ∧ w' = w2.setCell ⟨w.heap.size, 0, none⟩ (.int .i64 x) := by
 have hmf : ∀ (fn : Fn) (first cap : Array Value) (w : World), (Instr.makeFunc fn first cap).run Tryz.prog w = .ok (.func fn first cap) w := fun _ _ _ _ => rfl
 have HH := Lib.hid H
 clear H
 go_enter_defers Tryz.func82, Tryz.ntmps82
 go_wp2_with (fail)
 refine HH.out.mono ?_
 rintro e w2 ⟨hq, h2⟩
 rcases hq with ⟨rfl, hR⟩ | ⟨x, rfl, hR⟩
 ·have a0 := Lib.cell_of_heap h2 0
  have f0 := Lib.frozen_of_heap h2 0
  have H2 := Lib.hid h2
  have HR := Lib.hid hR
  clear h2 hR HH
  go_wp2
  exact wdoor_ret w w2 R HR.out _ _ H2.out rfl
 ·exact wdoor x w w2 R hR _ _ h2 rfl

def KeyPost (w : World) (n : T) (e : Ending) (w' : World) : Prop := ∃ A l c u x, e = .returned (.tuple #[.agg #[.slice A (List.length l) c, .int .u32 u], .int .i64 x]) ∧ ((x = 2 ∧ keyP n = none ∧ l = [] ∧ u = 0) ∨ (x = 0 ∧ keyP n = some (l, u))) ∧ (Kd.int .u8).C w' A l.length l ∧ l.length ≤ c ∧ Below w.heap.size w w'

set_option maxHeartbeats 4000000 in
set_option maxRecDepth 100000 in
theorem readK_walk (n : T) (hby : byT n) (hw : wT n ≤ 500000) (X1 : Option Addr) (x1 : Nat) (X2 : Option Addr) (x2 : Nat) (w : World) (hn : NodeAt w n X1 x1 X2 x2) :
 Calls Tryz.prog 43 #[.agg #[.int .i64 n.f0, .slice X1 n.f1.length x1, .slice X2 n.f2.length x2]] w (KeyPost w n) := by
 have hmf : ∀ (fn : Fn) (first cap : Array Value) (w : World), (Instr.makeFunc fn first cap).run Tryz.prog w = .ok (.func fn first cap) w := fun _ _ _ _ => rfl
 -- the world ahead of wrong: the element's box, the result, the key
 have h3 : ∀ w3, w3 = ((w.alloc (.cells #[.int .i64 n.f0, .slice X1 n.f1.length x1, .slice X2 n.f2.length x2] 51)).alloc (.cells #[.slice none 0 0, .int .u32 0] 32)).alloc (.cells #[.slice none 0 0, .int .u32 0] 32) →
  Calls Tryz.prog 82 #[.func (.func 83) #[] #[.pointer (some ⟨w.heap.size, 0, none⟩), .pointer (some ⟨w.heap.size + 2, 0, none⟩)]] w3 fun e w' => ∃ v0 v1 x, e = .returned (.int .i64 x) ∧ Below w.heap.size w w' ∧ w'.heap[w.heap.size + 1]? = some (.cells #[.slice none 0 0, .int .u32 0] 32 (0, 0)) ∧ w'.heap[w.heap.size + 2]? = some (.cells #[v0, v1] 32 (0, 0)) ∧
   ((x = 2 ∧ keyP n = none) ∨ (∃ l u A c, x = 0 ∧ keyP n = some (l, u) ∧ v0 = .slice A (List.length l) c ∧ v1 = .int .u32 u ∧ (Kd.int .u8).R 5 w' (w.heap.size + 3) (fun _ => True) (.slice A l.length c) l ∧ l.length ≤ c)) := by
  intro w3 hw3
  have hs3 : w3.heap.size = w.heap.size + 3 := by rw [hw3]; simp
  have hB3 : Below w.heap.size w w3 := by rw [hw3]; exact (((Below.refl _ _).alloc (Nat.le_refl _) _).alloc (by simp) _).alloc (by simp; omega) _
  have hx3 : w3.heap[w.heap.size]? = some (.cells #[.int .i64 n.f0, .slice X1 n.f1.length x1, .slice X2 n.f2.length x2] 51 (0, 0)) := by
   rw [hw3]
   exact (Below.heap_alloc _ _ _ (by simp; omega)).trans ((Below.heap_alloc _ _ _ (by simp)).trans (heap_alloc_new w _))
  have hr3 : w3.heap[w.heap.size + 1]? = some (.cells #[.slice none 0 0, .int .u32 0] 32 (0, 0)) := by
   rw [hw3]
   have := heap_alloc_new (w.alloc (.cells #[.int .i64 n.f0, .slice X1 n.f1.length x1, .slice X2 n.f2.length x2] 51)) (.cells #[.slice none 0 0, .int .u32 0] 32)
   exact (Below.heap_alloc _ _ _ (by simp)).trans (by simpa using this)
  have hq3 : w3.heap[w.heap.size + 2]? = some (.cells #[.slice none 0 0, .int .u32 0] 32 (0, 0)) := by
   rw [hw3]
   have := heap_alloc_new ((w.alloc (.cells #[.int .i64 n.f0, .slice X1 n.f1.length x1, .slice X2 n.f2.length x2] 51)).alloc (.cells #[.slice none 0 0, .int .u32 0] 32)) (.cells #[.slice none 0 0, .int .u32 0] 32)
   simpa using this
  have hal : Below w3.heap.size w3 (w3.alloc (.cells #[.int .i64 0] 23)) := (Below.refl _ _).alloc (Nat.le_refl _) _
  have hs4 : (w3.alloc (.cells #[.int .i64 0] 23)).heap.size = w.heap.size + 4 := by simp [hs3]
  have he4 : (w3.alloc (.cells #[.int .i64 0] 23)).heap[w3.heap.size]? = some (.cells #[.int .i64 0] 23 (0, 0)) := heap_alloc_new w3 _
  have hr4 := (hal.block _ (heap_lt hr3)).trans hr3
  have hrd := rdk_walk n hby hw X1 x1 X2 x2 w (w3.alloc (.cells #[.int .i64 0] 23)) w.heap.size (w.heap.size + 2) _ hn (hB3.trans (hal.mono hB3.size)) (by omega) ((hal.block _ (heap_lt hx3)).trans hx3) (by omega) ((hal.block _ (heap_lt hq3)).trans hq3)
  have hwr := wrongK_walk w.heap.size (w.heap.size + 2) w3 (fun x W => ∃ v0 v1, KS w (w3.alloc (.cells #[.int .i64 0] 23)) W (w.heap.size + 2) v0 v1 ∧ ((x = 2 ∧ keyP n = none) ∨ (∃ l u A c, x = 0 ∧ keyP n = some (l, u) ∧ v0 = .slice A (List.length l) c ∧ v1 = .int .u32 u ∧ (Kd.int .u8).R 5 W (w3.alloc (.cells #[.int .i64 0] 23)).heap.size (fun _ => True) (.slice A l.length c) l))) (hrd.mono (by
   rintro e w2 ⟨v0, v1, hK, h⟩
   refine ⟨?_, (hK.o w3.heap.size (by omega) (by omega)).trans he4⟩
   rcases h with ⟨hn, rfl⟩ | ⟨l, u, A, c, hk, rfl, h0, h1, hR⟩
   ·exact .inr ⟨2, rfl, v0, v1, hK, .inl ⟨rfl, hn⟩⟩
   ·exact .inl ⟨rfl, v0, v1, hK, .inr ⟨l, u, A, c, rfl, hk, h0, h1, hR⟩⟩))
  refine hwr.mono ?_
  rintro e w' ⟨x, w2, rfl, ⟨v0, v1, hK, h⟩, rfl⟩
  refine ⟨v0, v1, x, rfl, Below.setCell hK.b (p := ⟨w3.heap.size, 0, none⟩) (by show w.heap.size ≤ w3.heap.size; omega) _, (heap_setCell_other _ _ _ _ (by show w.heap.size + 1 ≠ w3.heap.size; omega)).trans ((hK.o _ (by omega) (by omega)).trans hr4), (heap_setCell_other _ _ _ _ (by show w.heap.size + 2 ≠ w3.heap.size; omega)).trans hK.h, ?_⟩
  rcases h with ⟨hx, hn⟩ | ⟨l, u, A, c, hx, hk, h0, h1, hR⟩
  ·exact .inl ⟨hx, hn⟩
  ·refine .inr ⟨l, u, A, c, hx, hk, h0, h1, ?_, ?_⟩
   ·have hm := Kd.R_mono (Kd.R_bound hR) (fun k hk => hk.2.1)
    exact Kd.R_lower (Kd.R_mono (Kd.R_move (w1 := w2.setCell ⟨w3.heap.size, 0, none⟩ (.int .i64 x)) hm (fun k hk => heap_setCell_other _ _ _ _ (by show k ≠ w3.heap.size; omega))) (fun _ _ => trivial)) (by omega)
   ·obtain ⟨_, _, f1, g1, _⟩ := Kd.R_reads hR
    injection f1 with f1 _ f2
    subst f2
    exact g1
 have H3 := Lib.hid h3
 generalize hPP : KeyPost w n = PP
 have HPP := Lib.hid hPP
 clear h3 hby hw hn hPP
 go_enter Tryz.func43, Tryz.ntmps43
 go_wp2_with (fail)
 refine (H3.out _ rfl).mono ?_
 rintro e w7 ⟨v0, v1, x, rfl, hB7, hr7, hq7, hcase⟩
 clear H3
 have a0 := Lib.cell_of_heap hr7 0
 have a1 := Lib.cell_of_heap hr7 1
 have f0 := Lib.frozen_of_heap hr7 0
 have f1 := Lib.frozen_of_heap hr7 1
 have b0 := Lib.cell_of_heap hq7 0
 have b1 := Lib.cell_of_heap hq7 1
 have HB7 := Lib.hid hB7
 have HR7 := Lib.hid hr7
 clear hB7 hr7 hq7
 rcases hcase with ⟨rfl, hk⟩ | ⟨l, u, A, c, rfl, hk, rfl, rfl, hR, hlc⟩
 ·have HK := Lib.hid hk
  clear hk
  go_wp2
  have hz := heap_setCell_same _ (w.heap.size + 1) 1 _ _ (.int .u32 0) (heap_setCell_same _ (w.heap.size + 1) 0 _ _ (.slice none 0 0) HR7.out)
  have hB := Below.setCell (Below.setCell HB7.out (p := ⟨w.heap.size + 1, 0, none⟩) (by show w.heap.size ≤ w.heap.size + 1; omega) (.slice none 0 0)) (p := ⟨w.heap.size + 1, 1, none⟩) (by show w.heap.size ≤ w.heap.size + 1; omega) (.int .u32 0)
  generalize (w7.setCell ⟨w.heap.size + 1, 0, none⟩ (.slice none 0 0)).setCell ⟨w.heap.size + 1, 1, none⟩ (.int .u32 0) = WF at hz hB ⊢
  have z0 := Lib.cell_of_heap hz 0
  have z1 := Lib.cell_of_heap hz 1
  refine bodyPost_ret (v := .tuple #[.agg #[.slice none 0 0, .int .u32 0], .int .i64 2]) (by simp at z0 z1; simp [results, Tryz.results43, go_sem, z0, z1]) rfl ?_
  have hPP := HPP.out
  subst hPP
  exact ⟨none, [], 0, 0, 2, rfl, .inl ⟨rfl, HK.out, rfl, rfl⟩, C_nil _ _ _, Nat.le_refl _, hB⟩
 ·have HK := Lib.hid hk
  have HRR := Lib.hid (And.intro hR hlc)
  clear hk hR hlc
  go_wp2
  have hz := heap_setCell_same _ (w.heap.size + 1) 1 _ _ (.int .u32 u) (heap_setCell_same _ (w.heap.size + 1) 0 _ _ (.slice A l.length c) HR7.out)
  have hB := Below.setCell (Below.setCell HB7.out (p := ⟨w.heap.size + 1, 0, none⟩) (by show w.heap.size ≤ w.heap.size + 1; omega) (.slice A l.length c)) (p := ⟨w.heap.size + 1, 1, none⟩) (by show w.heap.size ≤ w.heap.size + 1; omega) (.int .u32 u)
  have hne : ∀ k, k ≠ w.heap.size + 1 → ((w7.setCell ⟨w.heap.size + 1, 0, none⟩ (.slice A l.length c)).setCell ⟨w.heap.size + 1, 1, none⟩ (.int .u32 u)).heap[k]? = w7.heap[k]? := fun k hk => (heap_setCell_other _ _ _ _ hk).trans (heap_setCell_other _ _ _ _ hk)
  generalize (w7.setCell ⟨w.heap.size + 1, 0, none⟩ (.slice A l.length c)).setCell ⟨w.heap.size + 1, 1, none⟩ (.int .u32 u) = WF at hz hB hne ⊢
  have z0 := Lib.cell_of_heap hz 0
  have z1 := Lib.cell_of_heap hz 1
  refine bodyPost_ret (v := .tuple #[.agg #[.slice A l.length c, .int .u32 u], .int .i64 0]) (by simp at z0 z1; simp [results, Tryz.results43, go_sem, z0, z1]) rfl ?_
  have hPP := HPP.out
  subst hPP
  have hm := Kd.R_mono (Kd.R_bound HRR.out.1) (fun k hk => hk.2.1)
  obtain ⟨_, _, f1, g1, k1⟩ := Kd.R_reads (Kd.R_move (w1 := WF) hm (fun k hk => hne k (by omega)))
  injection f1 with f1 _ f2
  subst f1 f2
  exact ⟨_, l, _, u, 0, rfl, .inr ⟨rfl, HK.out⟩, k1, HRR.out.2, hB⟩

end Go.Proofs.YtcbmjmphicfgpaaGreatDoor.Tlv
end

section
namespace Go.Proofs.YtcbmjmphicfgpaaGreatDoor.PT
open Go.RowKit Go.Proofs.YtcbmjmphicfgpaaGreatDoorW.PrintWords Go.Proofs.YtcbmjmphicfgpaaGreatDoorW.PrintLast Go.Proofs.YtcbmjmphicfgpaaGreatDoorW.PrintMore
attribute [local go_sem] max2_int min2_int max_two min_two max_three min_three max_four min_four   -- for this text's walks alone
set_option linter.unusedVariables false
set_option linter.unusedSimpArgs false

def tal_Uri.f (a0 : ByteArray) : Option Bool := if a0.size ≤ 9223372036854775807 then some (Tal.uriB a0) else none
theorem tal_Uri.calls (a0 : ByteArray) (r : Bool) (w : World) (h : tal_Uri.f a0 = some r) :
 Calls Tryz.prog 10 #[.string a0] w fun e w' => e = .returned (.bool r) ∧ Below w.heap.size w w' := by
 unfold tal_Uri.f at h
 by_cases hs : a0.size ≤ 9223372036854775807
 ·rw [if_pos hs] at h
  have h2 := Option.some.inj h
  subst h2
  exact Tal.uri_walk a0 w hs
 ·rw [if_neg hs] at h
  cases h

end Go.Proofs.YtcbmjmphicfgpaaGreatDoor.PT
end

section
namespace Go.Proofs.YtcbmjmphicfgpaaGreatDoor.PT
open Go.RowKit Go.Proofs.YtcbmjmphicfgpaaGreatDoorW.PrintWords Go.Proofs.YtcbmjmphicfgpaaGreatDoorW.PrintLast Go.Proofs.YtcbmjmphicfgpaaGreatDoorW.PrintMore
attribute [local go_sem] max2_int min2_int max_two min_two max_three min_three max_four min_four   -- for this text's walks alone
set_option linter.unusedVariables false
set_option linter.unusedSimpArgs false

def tal_right.l0 : Nat → List ByteArray → List ByteArray → Int → Int → Option (Bool)
 | 0, _, _, _, _ => none
 | k + 1, x0, x5, x6, x7 => if x7 < x6 then (if 0 ≤ x7 then (if x7 < (x5.length : Int) then ((tal_Uri.f (rdOf ByteArray.empty x5 x7)).bind fun t114 => (if t114 = true then (tal_right.l0 k x0 x5 x6 (wrap64 (x7 + 1))) else (some false))) else (none)) else (none)) else (if (x0.length : Int) ≥ 1 then (some (decide ((x0.length : Int) ≤ 8))) else (some false))
def tal_right.f (k : Nat) (l0 : List ByteArray) : Option (Bool) := tal_right.l0 k l0 l0 (l0.length : Int) 0
set_option maxHeartbeats 8000000 in
set_option maxRecDepth 100000 in
theorem tal_right.calls (k : Nat) (A0 : Option Addr) (c0 : Nat) (l0 : List ByteArray) (r : Bool) (w : World) (hr0 : Kd.C Kd.string w A0 l0.length l0) (hc0 : l0.length ≤ c0) (h : tal_right.f k l0 = some r) :
 Calls Tryz.prog 31 #[.slice A0 l0.length c0] w fun e w' => e = .returned (.bool r) ∧ Below w.heap.size w w' := by
 have HR0 := Aside0.mk hr0
 have HC0 := Aside0.mk hc0
 clear hr0 hc0
 have HB := Aside0.mk (Below.refl w.heap.size w)
 have H : (tal_right.l0 k l0 l0 (l0.length : Int) 0) = some r := h
 clear h
 have H' := Aside0.mk H
 clear H
 go_enter Tryz.func31, Tryz.ntmps31
 go_wp2
 go_loopg [7] k (fun kq v7 w' => ∃ (x7_1 : Int), v7 = .int .i64 x7_1 ∧ Aside0 (tal_right.l0 kq l0 l0 (l0.length : Int) x7_1 = some r) ∧ Aside0 (kq ≤ k) ∧ Aside0 (Below w.heap.size w w'))
 case atStart => exact ⟨(0), (by first | rfl | (simp; done) | (simp [*]; done)), H', ⟨Nat.le_refl _⟩, ⟨by repeat (first | (with_reducible first | exact HB.out | apply below_alloc | apply pw_below_drewN | apply below_drew1) | exact HB.out)⟩⟩
 case round =>
  clear H'
  obtain ⟨x7_1, rfl, HA, HK1, HB⟩ := hrel
  cases gk with
  | zero => exact absurd HA.out (by simp [tal_right.l0])
  | succ k1 =>
   have H := HA.out
   clear HA
   simp only [tal_right.l0] at H
   by_cases c2 : x7_1 < (l0.length : Int)
   ·rw [if_pos c2] at H
    have c2b0 : decide (x7_1 < (l0.length : Int)) = true := decide_eq_true c2
    clear c2
    by_cases c3 : 0 ≤ x7_1
    ·rw [if_pos c3] at H
     have c3b0 : decide (0 ≤ x7_1) = true := decide_eq_true c3
     clear c3
     by_cases c4 : x7_1 < (l0.length : Int)
     ·rw [if_pos c4] at H
      have c4b0 : decide (x7_1 < (l0.length : Int)) = true := decide_eq_true c4
      clear c4
      replace H := Option.bind_eq_some_iff.mp H
      obtain ⟨t114, A50, H⟩ := H
      replace H : (if t114 = true then (tal_right.l0 k1 l0 l0 (l0.length : Int) (wrap64 (x7_1 + 1))) else (some false)) = some r := H
      have A5 := Aside0.mk A50
      clear A50
      by_cases c6 : t114 = true
      ·subst c6
       have H1 : (tal_right.l0 k1 l0 l0 (l0.length : Int) (wrap64 (x7_1 + 1))) = some r := by rw [if_pos rfl] at H; exact H
       clear H
       have H := H1
       clear H1
       have H' := Aside0.mk H
       clear H
       have p113 : 0 ≤ (x7_1 : Int) := of_decide_eq_true (by first | (with_reducible assumption) | assumption)
       have q113 : x7_1 < (l0.length : Int) := of_decide_eq_true (by first | (with_reducible assumption) | assumption)
       obtain ⟨ad113, e113, hx113_0⟩ := Kd.at_string HR0.out x7_1 p113 q113
       cases e113
       replace hx113_0 := (HB.out.cell (World.block_lt_of_cell? w _ hx113_0)).trans hx113_0
       replace p113 := eq_true p113
       replace q113 := eq_true q113
       go_wp2_with (first | ((with_reducible refine gate_callee (f := 10) rfl ?_); refine goesL_ (some 12) rfl rfl Tryz.func10 (by kernel_rfl) rfl #[.string (rdOf ByteArray.empty l0 x7_1)] rfl (by (try simp only [List.map_toArray, List.map_cons, List.map_nil]); first | done | rfl | (simp only [List.length_drop, List.length_take]; rfl)) ?_; (with_reducible refine (tal_Uri.calls (rdOf ByteArray.empty l0 x7_1) true _ A5.out).mono ?_); rintro e w7 ⟨rfl, hb⟩; refine ⟨_, rfl, ?_⟩; have n0_ := Aside0.mk (below_step (by repeat (first | (with_reducible first | exact HB.out | apply below_alloc | apply pw_below_drewN | apply below_drew1) | exact HB.out)) hb); clear HB; have HB := n0_; clear n0_; (try clear hb); (try clear hb2); (try clear hk); (try clear hi)))
       go_roundg k1
       case measure => have := HK1.out; omega
       case rel => exact ⟨(wrap64 (x7_1 + 1)), (by first | rfl | (simp; done) | (simp [*]; done)), H', ⟨by have := HK1.out; omega⟩, ⟨by repeat (first | (with_reducible first | exact HB.out | apply below_alloc | apply pw_below_drewN | apply below_drew1) | exact HB.out)⟩⟩
      ·replace c6 := Bool.eq_false_iff.mpr c6
       subst c6
       have H1 : (some false) = some r := by rw [if_neg (show ¬ (false = true) by decide)] at H; exact H
       clear H
       have H := H1
       clear H1
       obtain rfl := Option.some.inj H
       have p113 : 0 ≤ (x7_1 : Int) := of_decide_eq_true (by first | (with_reducible assumption) | assumption)
       have q113 : x7_1 < (l0.length : Int) := of_decide_eq_true (by first | (with_reducible assumption) | assumption)
       obtain ⟨ad113, e113, hx113_0⟩ := Kd.at_string HR0.out x7_1 p113 q113
       cases e113
       replace hx113_0 := (HB.out.cell (World.block_lt_of_cell? w _ hx113_0)).trans hx113_0
       replace p113 := eq_true p113
       replace q113 := eq_true q113
       go_wp2_with (first | ((with_reducible refine gate_callee (f := 10) rfl ?_); refine goesL_ (some 12) rfl rfl Tryz.func10 (by kernel_rfl) rfl #[.string (rdOf ByteArray.empty l0 x7_1)] rfl (by (try simp only [List.map_toArray, List.map_cons, List.map_nil]); first | done | rfl | (simp only [List.length_drop, List.length_take]; rfl)) ?_; (with_reducible refine (tal_Uri.calls (rdOf ByteArray.empty l0 x7_1) false _ A5.out).mono ?_); rintro e w8 ⟨rfl, hb⟩; refine ⟨_, rfl, ?_⟩; have n0_ := Aside0.mk (below_step (by repeat (first | (with_reducible first | exact HB.out | apply below_alloc | apply pw_below_drewN | apply below_drew1) | exact HB.out)) hb); clear HB; have HB := n0_; clear n0_; (try clear hb); (try clear hb2); (try clear hk); (try clear hi)))
       go_ret
       exact ⟨by first | rfl | (simp [errW_none, errW_some] <;> rfl) | (simp [*, errW_none, errW_some] <;> rfl), by repeat (first | (with_reducible first | exact HB.out | apply below_alloc | apply pw_below_drewN | apply below_drew1) | exact HB.out)⟩
     ·rw [if_neg c4] at H
      exact absurd H (by simp)
    ·rw [if_neg c3] at H
     exact absurd H (by simp)
   ·rw [if_neg c2] at H
    have c2b0 : decide (x7_1 < (l0.length : Int)) = false := decide_eq_false c2
    clear c2
    by_cases c9 : (l0.length : Int) ≥ 1
    ·rw [if_pos c9] at H
     have c9b0 : decide (1 ≤ (l0.length : Int)) = true := decide_eq_true c9
     have c9b1 : decide (1 ≤ l0.length) = true := decide_eq_true (by omega)
     clear c9
     obtain rfl := Option.some.inj H
     go_wp2
     go_ret
     exact ⟨by first | rfl | (simp [errW_none, errW_some] <;> rfl) | (simp [*, errW_none, errW_some] <;> rfl), by repeat (first | (with_reducible first | exact HB.out | apply below_alloc | apply pw_below_drewN | apply below_drew1) | exact HB.out)⟩
    ·rw [if_neg c9] at H
     have c9b0 : decide (1 ≤ (l0.length : Int)) = false := decide_eq_false c9
     have c9b1 : decide (1 ≤ l0.length) = false := decide_eq_false (by omega)
     clear c9
     obtain rfl := Option.some.inj H
     go_wp2
     go_ret
     exact ⟨by first | rfl | (simp [errW_none, errW_some] <;> rfl) | (simp [*, errW_none, errW_some] <;> rfl), by repeat (first | (with_reducible first | exact HB.out | apply below_alloc | apply pw_below_drewN | apply below_drew1) | exact HB.out)⟩

end Go.Proofs.YtcbmjmphicfgpaaGreatDoor.PT
end

section
set_option linter.unusedVariables false
set_option linter.unusedSimpArgs false
namespace Go.Proofs.YtcbmjmphicfgpaaGreatDoor.Tal
open Go.RowKit Go.Proofs.YtcbmjmphicfgpaaGreatDoorW.PrintWords Go.Proofs.YtcbmjmphicfgpaaGreatDoorW.PrintLast Go.Proofs.YtcbmjmphicfgpaaGreatDoorW.PrintMore Go.Proofs.YtcbmjmphicfgpaaGreatDoor.PT

def rightU (l : List ByteArray) : Bool := l.all uriB && decide (1 ≤ l.length) && decide (l.length ≤ 8)
theorem right_l0 (l : List ByteArray) (hl : l.length ≤ 1000001) (hs : ∀ x ∈ l, x.size ≤ 9223372036854775807) : ∀ (n i k : Nat), i + n = l.length → n < k → tal_right.l0 k l l (l.length : Int) (i : Int) = some ((l.drop i).all uriB && decide (1 ≤ l.length) && decide (l.length ≤ 8))
 | 0, i, k, h, hk => by
  obtain ⟨k, rfl⟩ : ∃ m, k = m + 1 := ⟨k - 1, by omega⟩
  rw [tal_right.l0, if_neg (by omega), List.drop_eq_nil_of_le (by omega)]
  by_cases h1 : 1 ≤ l.length
  ·rw [if_pos (by omega), decide_eq_true h1]
   simp
   omega
  ·rw [if_neg (by omega), decide_eq_false h1]; simp
 | n + 1, i, k, h, hk => by
  obtain ⟨k, rfl⟩ : ∃ m, k = m + 1 := ⟨k - 1, by omega⟩
  have ih := right_l0 l hl hs n (i + 1) k (by omega) (by omega)
  have hlt : i < l.length := by omega
  have hx0 : rdOf ByteArray.empty l (i : Int) = l[i] := by simp [rdOf, List.getD_eq_getElem?_getD, List.getElem?_eq_getElem hlt]
  rw [tal_right.l0, if_pos (by omega), if_pos (by omega), if_pos (by omega), hx0, wsucc i (by omega), ih]
  unfold tal_Uri.f
  rw [if_pos (hs _ (List.getElem_mem hlt)), Option.bind_some, List.drop_eq_getElem_cons hlt, List.all_cons]
  cases uriB l[i] <;> simp
theorem right_f (l : List ByteArray) (hl : l.length ≤ 1000001) (hs : ∀ x ∈ l, x.size ≤ 9223372036854775807) : tal_right.f (l.length + 1) l = some (rightU l) := by
 unfold tal_right.f rightU
 exact right_l0 l hl hs l.length 0 (l.length + 1) (by omega) (by omega)
def decB (s : ByteArray) : Option (List Int) := match radix_Decode.f (s.size + 1) s with
 | some (r, true) => some r
 | _ => none
theorem dec_told (s : ByteArray) (hs : s.size ≤ 140737488351232) : ∃ r ok, radix_Decode.f (s.size + 1) s = some (r, ok) ∧ ((ok = true ∧ decB s = some r ∧ (∀ x ∈ r, 0 ≤ x ∧ x < 256) ∧ Rad.enc r = bytesOf s) ∨ (ok = false ∧ decB s = none)) := by
 obtain ⟨r, ok, h1, h2⟩ := Rad.decode_any s hs
 refine ⟨r, ok, h1, ?_⟩
 unfold decB
 rw [h1]
 rcases h2 with ⟨rfl, l, hl, he, rfl⟩ | ⟨rfl, _, _⟩
 ·exact .inl ⟨rfl, rfl, fun x hx => hl x (by simpa using hx), by simpa using he⟩
 ·exact .inr ⟨rfl, rfl⟩
theorem dec_enc (l : List Int) (h : ∀ x ∈ l, 0 ≤ x ∧ x < 256) (hl : l.length ≤ 1000000) : decB (strOfNums (Rad.enc l)) = some l := by
 unfold decB
 rw [Rad.decode_enc l h hl _ (by rw [Rad.strOfNums_size]; omega)]
def keyB (b : List Int) : Option (List Int × Int) := match Tlv.readP b with
 | .err _ => none
 | .ok n => Tlv.keyP n
def talP (us : List ByteArray) (sg : ByteArray) : Option (List ByteArray × List Int × Int) := match decB sg with
 | none => none
 | some b => if rightU us = true then (match keyB b with | none => none | some k => some (us, k.1, k.2)) else none
def readB (s : ByteArray) : Option (List ByteArray × List Int × Int) := talP (urisB (Spl.linesR s)) (signsB (Spl.linesR s))
theorem enc_size (r : List Int) (s : ByteArray) (h : Rad.enc r = bytesOf s) : r.length ≤ s.size := by
 have h1 := congrArg List.length h
 rw [Rad.enc_length, bytesOf_length] at h1
 omega
end Go.Proofs.YtcbmjmphicfgpaaGreatDoor.Tal
end

section
set_option linter.unusedVariables false
set_option linter.unusedSimpArgs false
namespace Go.Proofs.YtcbmjmphicfgpaaGreatDoor.Tlv
open Go.RowKit Go.Proofs.YtcbmjmphicfgpaaGreatDoorW.PrintWords Go.Proofs.YtcbmjmphicfgpaaGreatDoorW.PrintLast Go.Proofs.YtcbmjmphicfgpaaGreatDoorW.PrintMore Go.Proofs.YtcbmjmphicfgpaaGreatDoor.PT

theorem writeP_of {t : T} (h1 : rightT t = true) (h2 : deepT t ≤ 32) (h3 : sizeT t ≤ 20000) : writeP t = .ok (encT t) := by
 unfold writeP
 rw [if_neg (by rw [h1]; simp), if_neg (by omega), if_neg (by omega)]
theorem sameB_rfl {n : T} (h : n.f2 = []) : sameB n n = true := by
 unfold sameB
 rw [h, eqB_rfl]
 simp [wrap64]
theorem strip_big (s : List Int) (h : stripZ s = s) : stripZ (bigB s) = s := by
 cases s with
 | nil => rfl
 | cons x l =>
  have hx := stripZ_head h
  unfold bigB
  simp only
  split
  ·rw [stripZ, if_pos rfl]; exact h
  ·exact h
theorem bigT_big (l : List Int) : bigT (bigT l).f1 = bigT l := by
 show bigT (bigB (stripZ l)) = bigT l
 unfold bigT
 rw [strip_big _ (stripZ_twice l)]
theorem numF_strip : ∀ l : List Int, numF (stripZ l) = numF l
 | [] => rfl
 | x :: l => by
  by_cases h : x = 0
  ·rw [stripZ, if_pos h, numF_strip l, h]; unfold numF; rfl
  ·rw [stripZ_nz h]
theorem numF_big (l : List Int) : numF (bigB l) = numF l := by
 cases l with
 | nil => rfl
 | cons x l =>
  unfold bigB
  simp only
  split
  ·unfold numF; rfl
  ·rfl
theorem rightK_strip {l : List Int} {E : Int} (hl : l.length ≤ 100000) (h : rightK l E = true) : stripZ l = l := by
 have hf := right_f l E hl
 rw [h] at hf
 unfold rsa_Right.f at hf
 by_cases c1 : (l.length : Int) ≥ 62
 ·have hw : wrap64 ((l.length : Int) - 1) = (l.length : Int) - 1 := by unfold wrap64; omega
  rw [if_pos c1, hw] at hf
  by_cases c2 : (l.length : Int) ≤ 512
  ·rw [if_pos c2, if_pos (by omega)] at hf
   by_cases c3 : rd l 0 = 0
   ·rw [if_pos c3] at hf; simp at hf
   ·cases l with
    | nil => simp at c1
    | cons x l => exact stripZ_nz c3
  ·rw [if_neg c2] at hf; simp at hf
 ·rw [if_neg c1] at hf; simp at hf
theorem greatP_big {l : List Int} (h : stripZ l = l) : greatP (bigT l) = some l := by
 unfold greatP
 rw [bigT_big, if_pos ⟨rfl, sameB_rfl rfl⟩]
 show some (stripZ (bigB (stripZ l))) = some l
 rw [strip_big _ (stripZ_twice l), h]
theorem uintP_int {E : Int} (h0 : 0 ≤ E) (h1 : E < 4294967296) : uintP (intT E) = some E := by
 obtain ⟨m, m1, m2, hm, hp⟩ := least_p E h0 (by omega)
 have hb := bE_byte m E
 have hlen : (leastP E).length ≤ 4 := by
  have : leastP E = bE 1 E ∨ leastP E = bE 2 E ∨ leastP E = bE 3 E ∨ leastP E = bE 4 E := by
   unfold leastP
   by_cases c1 : E / 256 = 0
   ·exact .inl (by rw [if_pos c1])
   rw [if_neg c1]
   by_cases c2 : E / 65536 = 0
   ·exact .inr (.inl (by rw [if_pos c2]))
   rw [if_neg c2]
   by_cases c3 : E / 16777216 = 0
   ·exact .inr (.inr (.inl (by rw [if_pos c3])))
   rw [if_neg c3]
   exact .inr (.inr (.inr (by rw [if_pos (by omega)])))
  rcases this with h | h | h | h <;> rw [h, (bE_byte _ _).2] <;> decide
 have e : numP (intT E).f1 = some E := by
  show numP (bigB (stripZ (leastP E))) = some E
  have g1 := bigB_len (stripZ (leastP E))
  have g2 := stripZ_len (leastP E)
  rw [numP_small (by omega), numF_big, numF_strip, hm, numF_bE m E h0 hp]
 unfold uintP
 rw [e]
 simp only
 rw [if_pos (sameB_rfl rfl)]
theorem ofP_bit {b : List Int} (hb : b.length ≤ 1000000) : ofP (bitT b) = some b := by
 show ofL (bitT b) (0 :: b) = some b
 show (scalar_Bits.f b (wrap64 (wrap64 (8 * (b.length : Int)) - 0))).bind (ofC (bitT b) b) = some b
 rw [bits_zero b hb]
 show ofC (bitT b) b (3, 0 :: b, [], 0) = some b
 unfold ofC
 rw [if_pos ⟨rfl, by exact sameB_rfl rfl⟩]
theorem bigB_by {l : List Int} (h : ∀ v ∈ l, 0 ≤ v ∧ v < 256) : ∀ v ∈ bigB (stripZ l), 0 ≤ v ∧ v < 256 := by
 have h2 : ∀ v ∈ stripZ l, 0 ≤ v ∧ v < 256 := fun v hv => h v (stripZ_mem l v hv)
 generalize stripZ l = s at h2 ⊢
 intro v hv
 cases s with
 | nil => unfold bigB at hv; simp at hv; omega
 | cons x m =>
  unfold bigB at hv
  simp only at hv
  split at hv
  ·rcases List.mem_cons.1 hv with rfl | hv
   ·omega
   ·exact h2 v hv
  ·exact h2 v hv
theorem bigT_by {l : List Int} (h : ∀ v ∈ l, 0 ≤ v ∧ v < 256) : byT (bigT l) := byT_mk (bigB_by h) trivial
theorem own_by {l : List Int} {E : Int} (h : ∀ v ∈ l, 0 ≤ v ∧ v < 256) (h0 : 0 ≤ E) (h1 : E < 4294967296) : byT (ownT l E) :=
 byT_mk (fun v hv => by cases hv) ⟨bigT_by h, bigT_by (leastP_len E h0 (by omega)).2, trivial⟩
theorem own_ok (l : List Int) (E : Int) (hl : l.length ≤ 140) (hv : ∀ v ∈ l, 0 ≤ v ∧ v < 256) (h0 : 0 ≤ E) (h1 : E < 4294967296) : writeP (ownT l E) = .ok (ownB l E) ∧ (ownB l E).length ≤ 2000 := by
 have hlE := (leastP_len E h0 (by omega)).1
 have g1 := bigB_len (stripZ (leastP E))
 have g2 := stripZ_len (leastP E)
 have g3 := bigB_len (stripZ l)
 have g4 := stripZ_len l
 have e48 : holdsB 48 = true := by decide
 have e2 : holdsB 2 = false := by decide
 have n2 : ¬ (false = true) := by decide
 have i48 : isTagB 48 = true := by decide
 have i2 : isTagB 2 = true := by decide
 have hr : rightT (ownT l E) = true := by
  unfold ownT intT bigT
  rw [rightT, rightL, rightL, rightL, rightT, rightT, rightL, e48, e2, i48, i2]
  rfl
 have hd : deepT (ownT l E) ≤ 32 := by
  unfold ownT intT bigT
  rw [deepT, deepL, deepL, deepL, deepT, deepT, e48, e2, if_pos rfl, if_neg n2]
  decide
 have hs : sizeT (ownT l E) ≤ 1000 := by
  unfold ownT intT bigT
  rw [sizeT, sizeL, sizeL, sizeL, sizeT, sizeT, e48, e2, if_pos rfl, if_neg n2, if_neg n2]
  have k1 := headLen_pos (bigB (stripZ l)).length
  have k2 := headLen_pos (bigB (stripZ (leastP E))).length
  have k3 := headLen_pos ((((bigB (stripZ l)).length : Int) + headLen ((bigB (stripZ l)).length)) + (((bigB (stripZ (leastP E))).length : Int) + headLen ((bigB (stripZ (leastP E))).length) + 0))
  omega
 have hw := writeP_of hr hd (by omega)
 have ho : ownB l E = encT (ownT l E) := by unfold ownB; rw [hw]; rfl
 refine ⟨by rw [ho]; exact hw, ?_⟩
 have hq := readP_write hw
 have := (readP_ok (enc_by _ (own_by hv h0 h1)) hq).2.2.1
 rw [ho]
 omega
theorem node_ok (l : List Int) (E : Int) (hl : l.length ≤ 140) (hv : ∀ v ∈ l, 0 ≤ v ∧ v < 256) (h0 : 0 ≤ E) (h1 : E < 4294967296) : writeP (nodeT l E) = .ok (encT (nodeT l E)) := by
 have hb := (own_ok l E hl hv h0 h1).2
 have e48 : holdsB 48 = true := by decide
 have e3 : holdsB 3 = false := by decide
 have n2 : ¬ (false = true) := by decide
 have i48 : isTagB 48 = true := by decide
 have i3 : isTagB 3 = true := by decide
 have a1 : rightT (algT 1) = true := by decide
 have a2 : deepT (algT 1) ≤ 3 := by decide
 have a3 : sizeT (algT 1) ≤ 30 := by decide
 refine writeP_of ?_ ?_ ?_
 ·unfold nodeT bitT
  rw [rightT, rightL, rightL, rightL, rightT, rightL, e48, e3, i48, i3, a1]
  rfl
 ·unfold nodeT bitT
  rw [deepT, deepL, deepL, deepL, deepT, e48, e3, if_pos rfl, if_neg n2]
  omega
 ·unfold nodeT bitT
  rw [sizeT, sizeL, sizeL, sizeL, sizeT, e48, e3, if_pos rfl, if_neg n2, List.length_cons]
  have k1 := headLen_pos ((ownB l E).length + 1 : Nat)
  have k3 := headLen_pos (sizeT (algT 1) + ((((ownB l E).length + 1 : Nat) : Int) + headLen (((ownB l E).length + 1 : Nat)) + 0))
  omega
/-- A key that may be comes back of its element. -/
theorem key_back {l : List Int} {E : Int} (hl : l.length ≤ 140) (hv : ∀ v ∈ l, 0 ≤ v ∧ v < 256) (h0 : 0 ≤ E) (h1 : E < 4294967296) (hr : rightK l E = true) : keyP (nodeT l E) = some (l, E) := by
 have ho := own_ok l E hl hv h0 h1
 have hn := node_ok l E hl hv h0 h1
 have hs := rightK_strip (by omega) hr
 unfold nodeT
 rw [keyP_two, ofP_bit (by omega)]
 simp only
 rw [readP_write ho.1]
 simp only
 unfold ownT
 rw [keyX_two, greatP_big hs]
 simp only
 rw [uintP_int h0 h1]
 simp only
 have hsm : sameP (nodeT l E) (nodeT l E) = true := by
  unfold sameP
  rw [hn]
  exact eqB_rfl _
 unfold nodeT at hsm
 rw [if_pos ⟨h1, hr, hsm⟩]
theorem ownB_by {m : List Int} {v : Int} (hm : ∀ x ∈ m, 0 ≤ x ∧ x < 256) (h0 : 0 ≤ v) (h1 : v < 4294967296) : ∀ x ∈ ownB m v, 0 ≤ x ∧ x < 256 := by
 unfold ownB
 cases hw2 : writeP (ownT m v) with
 | err e => intro x hx; cases hx
 | ok o =>
  have := (writeP_ok hw2).1
  intro x hx
  refine enc_by _ (own_by hm h0 h1) x ?_
  rw [← this]
  exact hx
theorem node_by {m : List Int} {v : Int} (hm : ∀ x ∈ m, 0 ≤ x ∧ x < 256) (h0 : 0 ≤ v) (h1 : v < 4294967296) : byT (nodeT m v) := byT_mk (fun v hv => by cases hv) ⟨by_enc (algT 1) (by decide) (by decide), byT_mk (fun x hx => by rcases List.mem_cons.1 hx with rfl | hx; omega; exact ownB_by hm h0 h1 x hx) trivial, trivial⟩
end Go.Proofs.YtcbmjmphicfgpaaGreatDoor.Tlv
end

section
set_option linter.unusedVariables false
set_option linter.unusedSimpArgs false
namespace Go.Proofs.YtcbmjmphicfgpaaGreatDoor.Tal
open Go.RowKit Go.Shelf Go.Proofs.YtcbmjmphicfgpaaGreatDoorW.PrintWords Go.Proofs.YtcbmjmphicfgpaaGreatDoorW.PrintLast Go.Proofs.YtcbmjmphicfgpaaGreatDoorW.PrintMore Go.Proofs.YtcbmjmphicfgpaaGreatDoor.PT

/-- The signs of a key's element. -/
def signsK (l : List Int) (E : Int) : ByteArray := strOfNums (Rad.enc (Tlv.encT (Tlv.nodeT l E)))
def linesK (us : List ByteArray) (l : List Int) (E : Int) : List (List UInt8) := us.map (·.data.toList) ++ [] :: chunksL (signsK l E).data.toList
def textB (us : List ByteArray) (l : List Int) (E : Int) : ByteArray := ⟨(Lin.ended [10] (linesK us l E)).toArray⟩
def textR (us : List ByteArray) (l : List Int) (E : Int) : ByteArray × Int := if (Tlv.rightK l E && rightU us) = true then (textB us l E, 0) else (⟨#[]⟩, 1)
theorem ended_app (e : List UInt8) : ∀ a b : List (List UInt8), Lin.ended e (a ++ b) = Lin.ended e a ++ Lin.ended e b
 | [], b => rfl
 | x :: a, b => by rw [List.cons_append, Lin.ended, Lin.ended, ended_app e a b]; simp
theorem byteCells_app (a b : List UInt8) : Lib.byteCells (a ++ b) = Lib.byteCells a ++ Lib.byteCells b := List.map_append
theorem line_walk (B b : Nat) (acc : List UInt8) (s : ByteArray) (w : World) (h : Lib.IsBuilderF 59 5 B b (Lib.byteCells acc) w) (hlen : acc.length + s.size ≤ 1000000000) (hBw : B ≤ w.heap.size) :
 Calls Tryz.prog 32 #[.string s, .pointer (some ⟨b, 0, none⟩)] w fun e w' => e = .returned (.tuple #[]) ∧ Lib.IsBuilderF 59 5 B b (Lib.byteCells (acc ++ (s.data.toList ++ [10]))) w' ∧ Below B w w' := by
 refine (Bld.line_walk B b (Lib.byteCells acc) s w h (by simp only [Lib.byteCells, List.length_map]; omega) hBw).mono ?_
 rintro e w' ⟨rfl, h2, hb, _⟩
 refine ⟨rfl, ?_, hb⟩
 rw [byteCells_app, byteCells_app, ← List.append_assoc]
 exact h2
theorem signsK_size (l : List Int) (E : Int) (hl : l.length ≤ 140) (hv : ∀ v ∈ l, 0 ≤ v ∧ v < 256) (h0 : 0 ≤ E) (h1 : E < 4294967296) : Tlv.writeP (Tlv.nodeT l E) = .ok (Tlv.encT (Tlv.nodeT l E)) ∧ (∀ v ∈ Tlv.encT (Tlv.nodeT l E), 0 ≤ v ∧ v < 256) ∧ (Tlv.encT (Tlv.nodeT l E)).length ≤ 20000 ∧ (signsK l E).size ≤ 30000 := by
 have hn := Tlv.node_ok l E hl hv h0 h1
 have hb := Tlv.enc_by _ (Tlv.node_by (m := l) (v := E) hv h0 h1)
 have hq := Tlv.readP_write hn
 have h5 := (Tlv.readP_ok hb hq).2.2.2.2
 refine ⟨hn, hb, h5, ?_⟩
 unfold signsK
 rw [Rad.strOfNums_size, Rad.enc_length]
 omega

def lenS : Value → Nat | .string s => s.size | _ => 0
theorem rightU_mem {us : List ByteArray} (h : rightU us = true) : us.length ≤ 8 ∧ 1 ≤ us.length ∧ ∀ x ∈ us, uriB x = true ∧ x.size ≤ 200 := by
 unfold rightU at h
 simp only [Bool.and_eq_true, decide_eq_true_eq, List.all_eq_true] at h
 refine ⟨h.2, h.1.2, fun x hx => ⟨h.1.1 x hx, ?_⟩⟩
 have := (uriL_iff.1 (h.1.1 x hx)).1
 rwa [size_len] at this
theorem ended_snoc (us : List ByteArray) (k : Nat) (h : k < us.length) : Lin.ended [10] ((us.take (k + 1)).map (·.data.toList)) = Lin.ended [10] ((us.take k).map (·.data.toList)) ++ (us[k].data.toList ++ [10]) := by
 rw [← List.take_append_getElem h, List.map_append, ended_app]
 simp [Lin.ended]
set_option maxHeartbeats 8000000 in
set_option maxRecDepth 100000 in
theorem text_walk (U : Option Addr) (cu : Nat) (us : List ByteArray) (A : Option Addr) (ca : Nat) (l : List Int) (E : Int) (w : World) (hU : Kd.string.C w U us.length us) (hcu : us.length ≤ cu) (hul : us.length ≤ 1000000) (huz : ∀ x ∈ us, x.size ≤ 9223372036854775807)
 (hA : (Kd.int .u8).C w A l.length l) (hca : l.length ≤ ca) (hl : l.length ≤ 140) (hv : ∀ v ∈ l, 0 ≤ v ∧ v < 256) (h0 : 0 ≤ E) (h1 : E < 4294967296) :
 Calls Tryz.prog 15 #[.agg #[.slice U us.length cu, .slice A l.length ca, .int .u32 E]] w fun e w' => e = .returned (.tuple #[.string (textR us l E).1, .int .i64 (textR us l E).2]) ∧ Below w.heap.size w w' := by
 have hmf : ∀ (fn : Fn) (first cap : Array Value) (w : World), (Instr.makeFunc fn first cap).run Tryz.prog w = .ok (.func fn first cap) w := fun _ _ _ _ => rfl
 have hal : Below w.heap.size w (w.alloc (.cells #[.slice U us.length cu, .slice A l.length ca, .int .u32 E] 34)) := (Below.refl _ _).alloc (Nat.le_refl _) _
 have hbx : (w.alloc (.cells #[.slice U us.length cu, .slice A l.length ca, .int .u32 E] 34)).heap[w.heap.size]? = some (.cells #[.slice U us.length cu, .slice A l.length ca, .int .u32 E] 34 (0, 0)) := heap_alloc_new w _
 have HND := Lib.hid (Tlv.node_walk l E (by omega) hv h0 h1 A ca _ (Kd.C_below hA hal) hca)
 have hks := signsK_size l E hl hv h0 h1
 have HRU := Lib.hid (fun (w1 : World) h1 => tal_right.calls (us.length + 1) U cu us (rightU us) w1 h1 hcu (right_f us (by omega) huz))
 have HTR := Lib.hid (show textR us l E = if (Tlv.rightK l E && rightU us) = true then (textB us l E, 0) else (⟨#[]⟩, 1) from rfl)
 have hwT := Tlv.wT_node l E
 have HU := Lib.hid (fun w1 (h : Below w.heap.size w w1) => Kd.C_below hU h)
 obtain ⟨rk, hrk⟩ : ∃ rk, rk = Tlv.rightK l E := ⟨_, rfl⟩
 obtain ⟨ru, hru⟩ : ∃ ru, ru = rightU us := ⟨_, rfl⟩
 have HRK := Lib.hid hrk
 have HRUQ := Lib.hid hru
 rw [← hrk, ← hru] at HTR
 rw [← hru] at HRU
 generalize textR us l E = res at HTR ⊢
 have c0 := Lib.cell_of_heap hbx 0
 have c1 := Lib.cell_of_heap hbx 1
 have c2 := Lib.cell_of_heap hbx 2
 have HBX := Lib.hid (And.intro hbx hal)
 have HKS := Lib.hid hks
 have HWT := Lib.hid hwT
 clear hrk hru hbx hal hks hwT hA hU hv
 go_enter Tryz.func15, Tryz.ntmps15
 go_wp2_with (fail)
 refine HND.out.mono ?_
 intro e w1 hp
 obtain ⟨X1, x1, X2, x2, n, en, rfl, hn, hcn, hB⟩ := hp.uni
 have hal1 : Below w1.heap.size w1 (w1.alloc (.cells #[.int .i64 n.f0, .slice X1 n.f1.length x1, .slice X2 n.f2.length x2] 51)) := (Below.refl _ _).alloc (Nat.le_refl _) _
 have hg1 : (w1.alloc (.cells #[.int .i64 n.f0, .slice X1 n.f1.length x1, .slice X2 n.f2.length x2] 51)).heap[w1.heap.size]? = some (.cells #[.int .i64 n.f0, .slice X1 n.f1.length x1, .slice X2 n.f2.length x2] 51 (0, 0)) := heap_alloc_new w1 _
 have hbx1 := (hal1.block _ (Tlv.heap_lt ((hB.block _ (Tlv.heap_lt HBX.out.1)).trans HBX.out.1))).trans ((hB.block _ (Tlv.heap_lt HBX.out.1)).trans HBX.out.1)
 have hb1 := (HBX.out.2.trans (hB.mono HBX.out.2.size)).trans (hal1.mono (HBX.out.2.trans (hB.mono HBX.out.2.size)).size)
 have HBX1 := Lib.hid (And.intro hbx1 hb1)
 have n0 := Lib.cell_of_heap hg1 0
 have n1 := Lib.cell_of_heap hg1 1
 have n2 := Lib.cell_of_heap hg1 2
 have hnw : n = ⟨0, [], []⟩ ∨ n = Tlv.nodeT l E := by rcases hcn with ⟨_, _, h⟩ | ⟨_, _, h⟩; exact .inr h; exact .inl h
 have HWR := Lib.hid (Tlv.write_walk n (fun _ => by
  have := Tlv.size_wT n
  rcases hnw with rfl | rfl
  ·have : Tlv.wT ⟨0, [], []⟩ = 1 := by decide
   omega
  ·have := HWT.out; omega) X1 x1 X2 x2 _ (hn.below hal1))
 have HCN := Lib.hid hcn
 clear hp hn hB hal1 hg1 hbx1 hb1 hnw hcn HND c0 c1 c2 HBX
 go_wp2_with (fail)
 refine HWR.out.mono ?_
 intro e w2 hp
 obtain ⟨V, b, cb, f, rfl, hcase, hbR, hB⟩ := hp.uni
 have hbx2 := (hB.block _ (Tlv.heap_lt HBX1.out.1)).trans HBX1.out.1
 have HB2 := Lib.hid (And.intro hbx2 (HBX1.out.2.trans (hB.mono HBX1.out.2.size)))
 have HBR := Lib.hid hbR
 have HCA := Lib.hid hcase
 clear hp hB hbx2 hbR hcase HBX1 HWR n0 n1 n2
 have hways : (en == (0 : Int)) = false ∧ en = 1 ∧ rk = false ∨ ((en = 0 ∧ f = 0 ∧ rk = true) ∧ b = Tlv.encT (Tlv.nodeT l E)) := by
  rcases HCN.out with ⟨h1, h2, h3⟩ | ⟨h1, h2, h3⟩
  ·refine .inr ?_
   rw [h3, HKS.out.1] at HCA
   rcases HCA.out with ⟨_, h⟩ | ⟨h4, h⟩
   ·cases h
   ·injection h with h
    exact ⟨⟨h1, h4, HRK.out.trans h2⟩, h.symm⟩
  ·exact .inl ⟨by rw [h1]; rfl, h1, HRK.out.trans h2⟩
 clear HCA HCN
 have a0 := Lib.cell_of_heap HB2.out.1 0
 have a1 := Lib.cell_of_heap HB2.out.1 1
 have a2 := Lib.cell_of_heap HB2.out.1 2
 rcases hways with ⟨e1, rfl, rfl⟩ | ⟨⟨rfl, rfl, rfl⟩, hbe⟩
 ·have HR : Hid (res = (⟨#[]⟩, 1)) := Lib.hid (by rw [HTR.out]; rfl)
  clear e1 HTR
  go_wp2
  go_ret2
  exact ⟨by rw [HR.out]; rfl, HB2.out.2⟩
 ·have HBE := Lib.hid hbe
  clear hbe
  cases ru with
  | false =>
   have HR : Hid (res = (⟨#[]⟩, 1)) := Lib.hid (by rw [HTR.out]; rfl)
   have HRC := Lib.hid (HRU.out w2 (HU.out w2 HB2.out.2))
   clear HTR HRU
   go_wp2_with (fail)
   refine HRC.out.mono ?_
   rintro e w3 ⟨rfl, hb3⟩
   have HB3 := Lib.hid (HB2.out.2.trans (hb3.mono HB2.out.2.size))
   clear hb3
   go_wp2
   go_ret2
   exact ⟨by rw [HR.out]; rfl, HB3.out⟩
  | true =>
   have HR : Hid (res = (textB us l E, 0)) := Lib.hid (by rw [HTR.out]; rfl)
   have HRC := Lib.hid (HRU.out w2 (HU.out w2 HB2.out.2))
   clear HTR HRU
   go_wp2_with (fail)
   refine HRC.out.mono ?_
   rintro e w3 ⟨rfl, hb3⟩
   have hbx3 := (hb3.block _ (Tlv.heap_lt HB2.out.1)).trans HB2.out.1
   have HB3 := Lib.hid (And.intro hbx3 (HB2.out.2.trans (hb3.mono HB2.out.2.size)))
   have HBR3 := Lib.hid (Kd.R_below HBR.out hb3)
   have hal4 : Below w3.heap.size w3 (w3.alloc (.cells #[.pointer none, .slice none 0 0] 59)) := (Below.refl _ _).alloc (Nat.le_refl _) _
   have hbx4 := (hal4.block _ (Tlv.heap_lt hbx3)).trans hbx3
   have hB4 := HB3.out.2.trans (hal4.mono HB3.out.2.size)
   have HB4 := Lib.hid hB4
   have HBC := Lib.hid (fun wr (h : Below w3.heap.size w3 wr) => Kd.C_below (Kd.R_reads' HBR3.out).2.2 h)
   have hcb := (Kd.R_reads' HBR3.out).2.1
   have HW := Lib.hid (fun wr (h : Below w3.heap.size w3 wr) => HB3.out.2.trans (h.mono HB3.out.2.size))
   have HAL4 := Lib.hid hal4
   obtain ⟨hu8, hu1, hu200⟩ := rightU_mem HRUQ.out.symm
   have HU200 := Lib.hid hu200
   have HBD : Hid (Lib.IsBuilderF 59 5 w3.heap.size w3.heap.size (Lib.byteCells []) (w3.alloc (.cells #[.pointer none, .slice none 0 0] 59))) := Lib.hid (Lib.IsBuilderF.of (Lib.fresh_isBuilder _ _ w3))
   have hs4 : w3.heap.size ≤ (w3.alloc (.cells #[.pointer none, .slice none 0 0] 59)).heap.size := by simp
   have HS34 := Lib.hid hs4
   clear hb3 hbx3 HBR HB2 a0 a1 a2 HRC hal4 hB4 HBR3 HB3 hs4 hu200 huz HRUQ
   have a0 := Lib.cell_of_heap hbx4 0
   clear hbx4
   go_wp2
   generalize (w3.alloc (.cells #[.pointer none, .slice none 0 0] 59)) = w4 at HBD HB4 HAL4 HS34 a0 ⊢
   clear a0
   go_loopw [40] (fun iv wr => ∃ (k : Nat) (acc : List UInt8), k ≤ us.length ∧ iv = .int .i64 k ∧ Hid (acc = Lin.ended [10] ((us.take k).map (·.data.toList))) ∧ acc.length ≤ 201 * k ∧ Hid (Lib.IsBuilderF 59 5 w3.heap.size w3.heap.size (Lib.byteCells acc) wr) ∧ Hid (Below w3.heap.size w3 wr)) (fun iv _ => us.length - (intOf iv).toNat)
   case atStart => exact ⟨0, [], by omega, rfl, Lib.hid rfl, by simp, HBD, HAL4⟩
   case round =>
    obtain ⟨k, acc, hk, rfl, HACC, hacl, HBD2, HBL⟩ := hrel
    clear HBD HB4 HAL4 HS34
    have hsz := HBL.out.size
    by_cases hlt : k < us.length
    ·obtain ⟨ad, e, q1⟩ := Kd.at_string (HU.out wr (HW.out wr HBL.out)) (k : Int) (by omega) (by omega)
     subst e
     have hx0 : rdOf ByteArray.empty us (k : Int) = us[k] := by simp [rdOf, List.getD_eq_getElem?_getD, List.getElem?_eq_getElem hlt]
     rw [hx0] at q1
     simp only [Int.toNat_natCast] at q1
     have hes := ended_snoc us k hlt
     have hx2 := (HU200.out _ (List.getElem_mem hlt)).2
     obtain ⟨x, hx⟩ : ∃ x, us[k] = x := ⟨_, rfl⟩
     rw [hx] at q1 hes hx2
     have HES := Lib.hid hes
     have HLW := Lib.hid (line_walk w3.heap.size w3.heap.size acc x wr HBD2.out (by omega) hsz)
     clear hx0 hx hes
     go_wp2_with (fail)
     refine HLW.out.mono ?_
     rintro e w5 ⟨rfl, hbd, hbl⟩
     have HBD3 := Lib.hid hbd
     have HBL3 := Lib.hid (HBL.out.trans hbl)
     clear hbd hbl HLW
     go_wp2
     go_roundw
     case rel => exact ⟨k + 1, acc ++ (x.data.toList ++ [10]), by omega, by go_num, Lib.hid (by rw [HES.out, HACC.out]), by simp only [List.length_append, List.length_singleton, size_len]; omega, HBD3, HBL3⟩
     case measure => simp [intOf]; omega
    ·obtain rfl : k = us.length := by omega
     have HLW := Lib.hid (line_walk w3.heap.size w3.heap.size acc ⟨#[]⟩ wr HBD2.out (by show acc.length + 0 ≤ _; omega) hsz)
     have hacc := HACC.out
     rw [List.take_length] at hacc
     have HACC2 := Lib.hid hacc
     clear hacc HACC
     go_wp2_with (fail)
     refine HLW.out.mono ?_
     rintro e w5 ⟨rfl, hbd, hbl⟩
     have HBD3 := Lib.hid hbd
     have HBL3 := Lib.hid (HBL.out.trans hbl)
     have HEN := Lib.hid (Rad.encode_walk V cb b w5 (Tlv.reads_of_C (HBC.out w5 (HBL.out.trans hbl))) hcb (fun x hx => HKS.out.2.1 x (by rw [← HBE.out]; exact hx)) (by rw [HBE.out]; have := HKS.out.2.2.1; omega))
     have HSK : Hid (strOfNums (Rad.enc b) = signsK l E) := Lib.hid (by unfold signsK; rw [HBE.out])
     clear hbd hbl HLW HBD2
     go_wp2_with (fail)
     refine HEN.out.mono ?_
     rintro e w6 ⟨rfl, hb6⟩
     rw [HSK.out]
     have HBD4 := Lib.hid (Rad.bldF_below HBD3.out (hb6.mono (by have := HBL3.out.size; omega)))
     have HBL4 := Lib.hid (HBL3.out.trans (hb6.mono HBL3.out.size))
     have HST : Hid (Lin.ended [10] (linesK us l E) = (acc ++ ((⟨#[]⟩ : ByteArray).data.toList ++ [10])) ++ Lin.ended [10] (chunksL (signsK l E).data.toList)) := Lib.hid (by
      unfold linesK
      rw [ended_app, ← HACC2.out]
      show _ ++ Lin.ended [10] ([] :: _) = _
      rw [Lin.ended]
      simp)
     have HTX : Hid (textB us l E = ⟨(Lin.ended [10] (linesK us l E)).toArray⟩) := Lib.hid rfl
     have hsk := HKS.out.2.2.2
     have hal9 : (acc ++ ((⟨#[]⟩ : ByteArray).data.toList ++ [10])).length ≤ 2000 := by
      have e1 : ((⟨#[]⟩ : ByteArray).data.toList ++ [(10 : UInt8)]).length = 1 := rfl
      rw [List.length_append, e1]; omega
     generalize signsK l E = y at HST hsk ⊢
     generalize acc ++ ((⟨#[]⟩ : ByteArray).data.toList ++ [10]) = acc2 at HST hal9 HBD4
     generalize Lin.ended [10] (linesK us l E) = fin at HST HTX
     clear hb6 HBD3 HBL3 HSK HEN HACC2 hacl hsz
     go_wp2
     go_loopw [12] (fun xv wr => ∃ (z : ByteArray) (acc : List UInt8), xv = .string z ∧ Hid (fin = acc ++ Lin.ended [10] (chunksL z.data.toList)) ∧ acc.length + 2 * z.size ≤ 70000 ∧ Hid (Lib.IsBuilderF 59 5 w3.heap.size w3.heap.size (Lib.byteCells acc) wr) ∧ Hid (Below w3.heap.size w3 wr)) (fun xv _ => lenS xv)
     case atStart => exact ⟨y, acc2, rfl, HST, by omega, HBD4, HBL4⟩
     case round =>
      obtain ⟨z, acc3, rfl, HFI, hle, HBD5, HBL5⟩ := hrel
      clear HBD4 HBL4 HST
      have hsz5 := HBL5.out.size
      by_cases hlt : 64 < z.size
      ·have d1 : decide ((64 : Int) < (z.size : Int)) = true := decide_eq_true (by omega)
       have d2 := eq_true (show (64 : Int) < (z.size : Int) by omega)
       have hsz0 : (z.extract 0 64).size = 64 := by rw [← size_len, extract_data]; simp [size_len]; omega
       have HLW := Lib.hid (line_walk w3.heap.size w3.heap.size acc3 (z.extract 0 64) _ HBD5.out (by omega) hsz5)
       have HN : Hid (fin = (acc3 ++ ((z.extract 0 64).data.toList ++ [10])) ++ Lin.ended [10] (chunksL (z.extract 64 z.size).data.toList)) := Lib.hid (by
        rw [HFI.out, chunksL_long (by rw [size_len]; exact hlt), Lin.ended, extract_data, extract_data]
        have e1 : List.take (z.size - 64) (List.drop 64 z.data.toList) = List.drop 64 z.data.toList := List.take_of_length_le (by rw [List.length_drop, size_len]; omega)
        rw [e1]
        simp)
       have hsz1 : (z.extract 64 z.size).size = z.size - 64 := by rw [← size_len, extract_data]; simp [size_len]
       have HSZ := Lib.hid (And.intro hsz0 hsz1)
       have d3 := eq_true (show 64 ≤ z.size by omega)
       clear hsz0 hsz1 HFI
       go_wp2_with (fail)
       refine HLW.out.mono ?_
       rintro e w7 ⟨rfl, hbd, hbl⟩
       have HBD6 := Lib.hid hbd
       have HBL6 := Lib.hid (HBL5.out.trans hbl)
       clear hbd hbl HLW HBD5
       go_wp2
       go_roundw
       case rel => exact ⟨_, _, rfl, HN, by rw [List.length_append, List.length_append, size_len, HSZ.out.1, HSZ.out.2]; simp; omega, HBD6, HBL6⟩
       case measure => simp only [lenS]; have := HSZ.out.2; omega
      ·have d1 : decide ((64 : Int) < (z.size : Int)) = false := decide_eq_false (by omega)
       have d2 := eq_false (show ¬ (64 : Int) < (z.size : Int) by omega)
       have HLW := Lib.hid (line_walk w3.heap.size w3.heap.size acc3 z _ HBD5.out (by omega) hsz5)
       have HN : Hid (fin = acc3 ++ (z.data.toList ++ [10])) := Lib.hid (by
        rw [HFI.out, chunksL_short (by rw [size_len]; omega)]
        simp [Lin.ended])
       clear HFI
       go_wp2_with (fail)
       refine HLW.out.mono ?_
       rintro e w7 ⟨rfl, hbd, hbl⟩
       have HBD6 := Lib.hid hbd
       have HBL6 := Lib.hid (HBL5.out.trans hbl)
       have hs7 := HBL6.out.size
       clear hbd hbl HLW HBD5
       go_wp2_with (fail)
       refine (Tryz.Builder_String_any_k w3.heap.size w3.heap.size _ _ HBD6.out (by omega)).mono ?_
       rintro e w8 ⟨rfl, _, hl8, _⟩
       have HB8 := Lib.hid (HW.out _ (HBL6.out.trans hl8))
       clear hl8
       go_wp2
       go_ret2
       refine ⟨?_, HB8.out⟩
       rw [HR.out, HTX.out, HN.out]
       rfl
end Go.Proofs.YtcbmjmphicfgpaaGreatDoor.Tal
end

section
namespace Go.Proofs.YtcbmjmphicfgpaaGreatDoor.PT
open Go.RowKit Go.Proofs.YtcbmjmphicfgpaaGreatDoorW.PrintWords Go.Proofs.YtcbmjmphicfgpaaGreatDoorW.PrintLast Go.Proofs.YtcbmjmphicfgpaaGreatDoorW.PrintMore
attribute [local go_sem] max2_int min2_int max_two min_two max_three min_three max_four min_four   -- for this text's walks alone
set_option linter.unusedVariables false
set_option linter.unusedSimpArgs false

mutual
def lanyardref02_Lines.l0 : Nat → ByteArray → List ByteArray → Int → Int → Option (List ByteArray)
 | 0, _, _, _, _ => none
 | k + 1, x0, x3, x4, x5 => if x5 ≤ (x0.size : Int) then (if x5 < (x0.size : Int) then (if 0 ≤ x5 then (lanyardref02_Lines.j1 k x0 x3 x4 x5 ((bt x0 x5) != 10)) else (none)) else (lanyardref02_Lines.j1 k x0 x3 x4 x5 false)) else (some x3)
def lanyardref02_Lines.j1 : Nat → ByteArray → List ByteArray → Int → Int → Bool → Option (List ByteArray)
 | 0, _, _, _, _, _ => none
 | k + 1, x0, x3, x4, x5, x22 => if x22 = true then (lanyardref02_Lines.l0 k x0 x3 x4 (wrap64 (x5 + 1))) else (if x5 > x4 then (if 0 ≤ (wrap64 (x5 - 1)) then (if (wrap64 (x5 - 1)) < (x0.size : Int) then (lanyardref02_Lines.j2 k x0 x3 x4 x5 x5 ((bt x0 (wrap64 (x5 - 1))) == 13)) else (none)) else (none)) else (lanyardref02_Lines.j2 k x0 x3 x4 x5 x5 false))
def lanyardref02_Lines.j2 : Nat → ByteArray → List ByteArray → Int → Int → Int → Bool → Option (List ByteArray)
 | 0, _, _, _, _, _, _ => none
 | k + 1, x0, x3, x4, x5, x6, x33 => if x33 = true then (if x5 < (x0.size : Int) then (if 0 ≤ x4 then (if x4 ≤ (wrap64 (x6 - 1)) then (if (wrap64 (x6 - 1)) ≤ (x0.size : Int) then (if x3.length < 8796093022208 then (lanyardref02_Lines.l0 k x0 (x3 ++ [x0.extract (x4 : Int).toNat ((wrap64 (x6 - 1)) : Int).toNat]) (wrap64 (x5 + 1)) (wrap64 (x5 + 1))) else (none)) else (none)) else (none)) else (none)) else (if (wrap64 (x6 - 1)) > x4 then (if 0 ≤ x4 then (if x4 ≤ (wrap64 (x6 - 1)) then (if (wrap64 (x6 - 1)) ≤ (x0.size : Int) then (if x3.length < 8796093022208 then (lanyardref02_Lines.l0 k x0 (x3 ++ [x0.extract (x4 : Int).toNat ((wrap64 (x6 - 1)) : Int).toNat]) (wrap64 (x5 + 1)) (wrap64 (x5 + 1))) else (none)) else (none)) else (none)) else (none)) else (lanyardref02_Lines.l0 k x0 x3 (wrap64 (x5 + 1)) (wrap64 (x5 + 1))))) else (if x5 < (x0.size : Int) then (if 0 ≤ x4 then (if x4 ≤ x6 then (if x6 ≤ (x0.size : Int) then (if x3.length < 8796093022208 then (lanyardref02_Lines.l0 k x0 (x3 ++ [x0.extract (x4 : Int).toNat (x6 : Int).toNat]) (wrap64 (x5 + 1)) (wrap64 (x5 + 1))) else (none)) else (none)) else (none)) else (none)) else (if x6 > x4 then (if 0 ≤ x4 then (if x4 ≤ x6 then (if x6 ≤ (x0.size : Int) then (if x3.length < 8796093022208 then (lanyardref02_Lines.l0 k x0 (x3 ++ [x0.extract (x4 : Int).toNat (x6 : Int).toNat]) (wrap64 (x5 + 1)) (wrap64 (x5 + 1))) else (none)) else (none)) else (none)) else (none)) else (lanyardref02_Lines.l0 k x0 x3 (wrap64 (x5 + 1)) (wrap64 (x5 + 1)))))
end
def lanyardref02_Lines.f (k : Nat) (a0 : ByteArray) : Option (List ByteArray) := lanyardref02_Lines.l0 k a0 ([] : List ByteArray) 0 0
set_option maxHeartbeats 8000000 in
set_option maxRecDepth 100000 in
theorem lanyardref02_Lines.calls (k : Nat) (a0 : ByteArray) (r : List ByteArray) (w : World) (h : lanyardref02_Lines.f k a0 = some r) :
 Calls Tryz.prog 20 #[.string a0] w fun e w' => ∃ v0_ : Value, e = .returned (v0_) ∧ Kd.R Kd.string 9 w' w.heap.size (fun _ => True) v0_ r ∧ Below w.heap.size w w' := by
 have HB := Aside0.mk (Below.refl w.heap.size w)
 have H : (lanyardref02_Lines.l0 k a0 ([] : List ByteArray) 0 0) = some r := h
 clear h
 have H' := Aside0.mk H
 clear H
 go_enter Tryz.func20, Tryz.ntmps20
 go_wp2
 go_loopg [3, 4, 5] k (fun kq v3 v4 v5 w' => ∃ (x3_1 : List ByteArray) (x4_1 : Int) (x5_1 : Int), v4 = .int .i64 x4_1 ∧ v5 = .int .i64 x5_1 ∧ Aside0 (lanyardref02_Lines.l0 kq a0 x3_1 x4_1 x5_1 = some r) ∧ Aside0 (kq ≤ k) ∧ Aside0 (Kd.R Kd.string 9 w' w.heap.size (fun _ => True) v3 x3_1) ∧ Aside0 (Below w.heap.size w w'))
 case atStart => exact ⟨(([] : List ByteArray)), (0), (0), (by first | rfl | (simp; done) | (simp [*]; done)), (by first | rfl | (simp; done) | (simp [*]; done)), H', ⟨Nat.le_refl _⟩, ⟨by first | exact Kd.R_nil _ _ _ _ _ | exact Kd.N_nil _ _ _ _ _ | exact Kd.V_nil _ _ _ _ _ | exact Kd.Q_nil _ _ _ _ _ | exact Kd.S_nil _ _ _ _ _⟩, ⟨by repeat (first | (with_reducible first | exact HB.out | apply below_alloc | apply pw_below_drewN | apply below_drew1) | exact HB.out)⟩⟩
 case round =>
  clear H'
  obtain ⟨x3_1, x4_1, x5_1, rfl, rfl, HA, HK1, HO_3, HB⟩ := hrel
  cases gk with
  | zero => exact absurd HA.out (by simp [lanyardref02_Lines.l0])
  | succ k1 =>
   have H := HA.out
   clear HA
   simp only [lanyardref02_Lines.l0] at H
   by_cases c2 : x5_1 ≤ (a0.size : Int)
   ·rw [if_pos c2] at H
    have c2b0 : decide (x5_1 ≤ (a0.size : Int)) = true := decide_eq_true c2
    clear c2
    have HC3 := Aside0.mk H
    clear H
    go_upto_region 6 with (fail)
    go_cut [22] (fun v22 wc => ∃ (kq : Nat) (x22_2 : Bool), v22 = .bool x22_2 ∧ Aside0 (lanyardref02_Lines.j1 kq a0 x3_1 x4_1 x5_1 x22_2 = some r) ∧ Aside0 (kq ≤ k1) ∧ Aside0 (Kd.R Kd.string 9 wc w.heap.size (fun _ => True) u3 x3_1) ∧ Aside0 (Below w.heap.size w wc))
    case first =>
     have H := HC3.out
     clear HC3
     by_cases c4 : x5_1 < (a0.size : Int)
     ·rw [if_pos c4] at H
      have c4b0 : decide (x5_1 < (a0.size : Int)) = true := decide_eq_true c4
      clear c4
      (first | rw [c4b0] | (simp only [i64_w, i32_w]; rw [c4b0]) | skip)
      by_cases c5 : 0 ≤ x5_1
      ·rw [if_pos c5] at H
       have c5b0 : decide (0 ≤ x5_1) = true := decide_eq_true c5
       clear c5
       have H' := Aside0.mk H
       clear H
       have p6 : 0 ≤ (x5_1 : Int) := of_decide_eq_true (by first | (with_reducible assumption) | assumption)
       have q6 : x5_1 < (a0.size : Int) := of_decide_eq_true (by first | (with_reducible assumption) | assumption)
       have hx6 := bt_at a0 x5_1
       replace p6 := eq_true p6
       replace q6 := eq_true q6
       go_wp2
       go_meet
       case rel => exact ⟨_, (((bt a0 x5_1) != 10)), (by first | rfl | (simp; done) | (simp [*]; done)), H', ⟨by have := HK1.out; first | omega | exact Nat.le_refl _⟩, ⟨by (with_reducible repeat (first | apply Kd.R_alloc | apply Kd.R_drewN | apply Kd.R_drew)); exact HO_3.out⟩, ⟨by repeat (first | (with_reducible first | exact HB.out | apply below_alloc | apply pw_below_drewN | apply below_drew1) | exact HB.out)⟩⟩
      ·rw [if_neg c5] at H
       exact absurd H (by simp)
     ·rw [if_neg c4] at H
      have c4b0 : decide (x5_1 < (a0.size : Int)) = false := decide_eq_false c4
      clear c4
      (first | rw [c4b0] | (simp only [i64_w, i32_w]; rw [c4b0]) | skip)
      have H' := Aside0.mk H
      clear H
      go_wp2
      go_meet
      case rel => exact ⟨_, (false), (by first | rfl | (simp; done) | (simp [*]; done)), H', ⟨by have := HK1.out; first | omega | exact Nat.le_refl _⟩, ⟨by (with_reducible repeat (first | apply Kd.R_alloc | apply Kd.R_drewN | apply Kd.R_drew)); exact HO_3.out⟩, ⟨by repeat (first | (with_reducible first | exact HB.out | apply below_alloc | apply pw_below_drewN | apply below_drew1) | exact HB.out)⟩⟩
    case rest =>
     clear HC3
     try clear c2
     try clear c2b0
     try clear p2
     try clear c4
     try clear c4b0
     try clear c5
     try clear c5b0
     try clear p6
     try clear q6
     try clear hx6
     try clear p6
     try clear q6
     obtain ⟨kq, x22_2, rfl, HA, HJ2, HO_3, HB⟩ := hcut
     cases kq with
     | zero => exact absurd HA.out (by simp [lanyardref02_Lines.j1])
     | succ kj2 =>
      have H := HA.out
      clear HA
      simp only [lanyardref02_Lines.j1] at H
      by_cases c7 : x22_2 = true
      ·subst c7
       have H1 : (lanyardref02_Lines.l0 kj2 a0 x3_1 x4_1 (wrap64 (x5_1 + 1))) = some r := by rw [if_pos rfl] at H; exact H
       clear H
       have H := H1
       clear H1
       have H' := Aside0.mk H
       clear H
       go_wp2
       go_roundg kj2
       case measure => have := HK1.out; have := HJ2.out; omega
       case rel => exact ⟨(x3_1), (x4_1), (wrap64 (x5_1 + 1)), (by first | rfl | (simp; done) | (simp [*]; done)), (by first | rfl | (simp; done) | (simp [*]; done)), H', ⟨by have := HK1.out; have := HJ2.out; omega⟩, ⟨by (with_reducible repeat (first | apply Kd.R_alloc | apply Kd.R_drewN | apply Kd.R_drew)); exact HO_3.out⟩, ⟨by repeat (first | (with_reducible first | exact HB.out | apply below_alloc | apply pw_below_drewN | apply below_drew1) | exact HB.out)⟩⟩
      ·replace c7 := Bool.eq_false_iff.mpr c7
       subst c7
       have H1 : (if x5_1 > x4_1 then (if 0 ≤ (wrap64 (x5_1 - 1)) then (if (wrap64 (x5_1 - 1)) < (a0.size : Int) then (lanyardref02_Lines.j2 kj2 a0 x3_1 x4_1 x5_1 x5_1 ((bt a0 (wrap64 (x5_1 - 1))) == 13)) else (none)) else (none)) else (lanyardref02_Lines.j2 kj2 a0 x3_1 x4_1 x5_1 x5_1 false)) = some r := by rw [if_neg (show ¬ (false = true) by decide)] at H; exact H
       clear H
       have H := H1
       clear H1
       have HC8 := Aside0.mk H
       clear H
       go_upto_region 8 with (fail)
       go_cut [33] (fun v33 wc => ∃ (kq : Nat) (x33_7 : Bool), v33 = .bool x33_7 ∧ Aside0 (lanyardref02_Lines.j2 kq a0 x3_1 x4_1 x5_1 x5_1 x33_7 = some r) ∧ Aside0 (kq ≤ kj2) ∧ Aside0 (Kd.R Kd.string 9 wc w.heap.size (fun _ => True) u3 x3_1) ∧ Aside0 (Below w.heap.size w wc))
       case first =>
        have H := HC8.out
        clear HC8
        by_cases c9 : x5_1 > x4_1
        ·rw [if_pos c9] at H
         have c9b0 : decide (x4_1 < x5_1) = true := decide_eq_true c9
         clear c9
         (first | rw [c9b0] | (simp only [i64_w, i32_w]; rw [c9b0]) | skip)
         obtain ⟨ji10, hji10⟩ : ∃ j_ : Int, (wrap64 (x5_1 - 1)) = j_ := ⟨_, rfl⟩
         replace H : (if 0 ≤ (ji10) then (if (ji10) < (a0.size : Int) then (lanyardref02_Lines.j2 kj2 a0 x3_1 x4_1 x5_1 x5_1 ((bt a0 (ji10)) == 13)) else (none)) else (none)) = some r := by first | (rw [hji10] at H; exact H) | (simp only [hji10] at H ⊢; exact H)
         have hji10w : (IntKind.i64.wrap (x5_1 - 1)) = ji10 := (i64_w _).trans hji10
         by_cases c11 : 0 ≤ (ji10)
         ·rw [if_pos c11] at H
          have c11b0 : decide (0 ≤ (ji10)) = true := decide_eq_true c11
          clear c11
          by_cases c12 : (ji10) < (a0.size : Int)
          ·rw [if_pos c12] at H
           have c12b0 : decide ((ji10) < (a0.size : Int)) = true := decide_eq_true c12
           clear c12
           have H' := Aside0.mk H
           clear H
           have p13 : 0 ≤ ((ji10) : Int) := of_decide_eq_true (by first | (with_reducible assumption) | assumption)
           have q13 : (ji10) < (a0.size : Int) := of_decide_eq_true (by first | (with_reducible assumption) | assumption)
           have hx13 := bt_at a0 (ji10)
           replace p13 := eq_true p13
           replace q13 := eq_true q13
           go_wp2
           go_meet
           case rel => exact ⟨_, (((bt a0 (ji10)) == 13)), (by first | rfl | (simp; done) | (simp only [← hji10] <;> (first | rfl | simp)) | (simp [*]; done)), H', ⟨by have := HK1.out; have := HJ2.out; first | omega | exact Nat.le_refl _⟩, ⟨by (with_reducible repeat (first | apply Kd.R_alloc | apply Kd.R_drewN | apply Kd.R_drew)); exact HO_3.out⟩, ⟨by repeat (first | (with_reducible first | exact HB.out | apply below_alloc | apply pw_below_drewN | apply below_drew1) | exact HB.out)⟩⟩
          ·rw [if_neg c12] at H
           exact absurd H (by simp)
         ·rw [if_neg c11] at H
          exact absurd H (by simp)
        ·rw [if_neg c9] at H
         have c9b0 : decide (x4_1 < x5_1) = false := decide_eq_false c9
         clear c9
         (first | rw [c9b0] | (simp only [i64_w, i32_w]; rw [c9b0]) | skip)
         have H' := Aside0.mk H
         clear H
         go_wp2
         go_meet
         case rel => exact ⟨_, (false), (by first | rfl | (simp; done) | (simp [*]; done)), H', ⟨by have := HK1.out; have := HJ2.out; first | omega | exact Nat.le_refl _⟩, ⟨by (with_reducible repeat (first | apply Kd.R_alloc | apply Kd.R_drewN | apply Kd.R_drew)); exact HO_3.out⟩, ⟨by repeat (first | (with_reducible first | exact HB.out | apply below_alloc | apply pw_below_drewN | apply below_drew1) | exact HB.out)⟩⟩
       case rest =>
        clear HC8
        try clear c1
        try clear p1
        try clear q1
        try clear hx1
        try clear c2
        try clear c2b0
        try clear p2
        try clear c4
        try clear c4b0
        try clear c5
        try clear c5b0
        try clear p6
        try clear q6
        try clear hx6
        try clear c7
        try clear c9
        try clear c9b0
        try clear c11
        try clear c11b0
        try clear c12
        try clear c12b0
        try clear p13
        try clear q13
        try clear hx13
        try clear p13
        try clear p2
        try clear p6
        try clear q13
        try clear q6
        obtain ⟨kq, x33_7, rfl, HA, HJ7, HO_3, HB⟩ := hcut
        cases kq with
        | zero => exact absurd HA.out (by simp [lanyardref02_Lines.j2])
        | succ kj7 =>
         have H := HA.out
         clear HA
         simp only [lanyardref02_Lines.j2] at H
         by_cases c14 : x33_7 = true
         ·subst c14
          have H1 : (if x5_1 < (a0.size : Int) then (if 0 ≤ x4_1 then (if x4_1 ≤ (wrap64 (x5_1 - 1)) then (if (wrap64 (x5_1 - 1)) ≤ (a0.size : Int) then (if x3_1.length < 8796093022208 then (lanyardref02_Lines.l0 kj7 a0 (x3_1 ++ [a0.extract (x4_1 : Int).toNat ((wrap64 (x5_1 - 1)) : Int).toNat]) (wrap64 (x5_1 + 1)) (wrap64 (x5_1 + 1))) else (none)) else (none)) else (none)) else (none)) else (if (wrap64 (x5_1 - 1)) > x4_1 then (if 0 ≤ x4_1 then (if x4_1 ≤ (wrap64 (x5_1 - 1)) then (if (wrap64 (x5_1 - 1)) ≤ (a0.size : Int) then (if x3_1.length < 8796093022208 then (lanyardref02_Lines.l0 kj7 a0 (x3_1 ++ [a0.extract (x4_1 : Int).toNat ((wrap64 (x5_1 - 1)) : Int).toNat]) (wrap64 (x5_1 + 1)) (wrap64 (x5_1 + 1))) else (none)) else (none)) else (none)) else (none)) else (lanyardref02_Lines.l0 kj7 a0 x3_1 (wrap64 (x5_1 + 1)) (wrap64 (x5_1 + 1))))) = some r := by rw [if_pos rfl] at H; exact H
          clear H
          have H := H1
          clear H1
          by_cases c15 : x5_1 < (a0.size : Int)
          ·rw [if_pos c15] at H
           have c15b0 : decide (x5_1 < (a0.size : Int)) = true := decide_eq_true c15
           clear c15
           by_cases c16 : 0 ≤ x4_1
           ·rw [if_pos c16] at H
            have c16b0 := eq_true c16
            have c16b1 : decide (0 ≤ x4_1) = true := decide_eq_true c16
            clear c16
            by_cases c17 : x4_1 ≤ (wrap64 (x5_1 - 1))
            ·rw [if_pos c17] at H
             have c17b0 := eq_true c17
             have c17b1 : decide (x4_1 ≤ (wrap64 (x5_1 - 1))) = true := decide_eq_true c17
             clear c17
             by_cases c18 : (wrap64 (x5_1 - 1)) ≤ (a0.size : Int)
             ·rw [if_pos c18] at H
              have c18b0 := eq_true c18
              have c18b1 : decide ((wrap64 (x5_1 - 1)) ≤ (a0.size : Int)) = true := decide_eq_true c18
              clear c18
              by_cases c19 : x3_1.length < 8796093022208
              ·rw [if_pos c19] at H
               have LMc19 := Aside0.mk c19
               clear c19
               obtain ⟨y280, hy280⟩ : ∃ y_ : List ByteArray, y_ = (x3_1 ++ [a0.extract (x4_1 : Int).toNat ((wrap64 (x5_1 - 1)) : Int).toNat]) := ⟨_, rfl⟩
               replace H : (lanyardref02_Lines.l0 kj7 a0 y280 (wrap64 (x5_1 + 1)) (wrap64 (x5_1 + 1))) = some r := by first | (rw [hy280]; with_reducible exact H) | (have H2_ := (Option.bind_some _ _).symm.trans H; rw [hy280]; with_reducible exact H2_) | (have H2_ := (Option.bind_some _ _).symm.trans H; with_reducible exact H2_) | with_reducible exact H | (rw [hy280]; exact H) | exact H
               have Ny280 := Aside0.mk hy280
               clear hy280
               have H' := Aside0.mk H
               clear H
               go_wp2_with (first | ((with_reducible refine gate_builtin (b := .append) (xs := #[.tmp 45, .tmp 50]) rfl ?_); at_builtin; refine Kd.R_append Kd.string (w0 := w) w.heap.size rfl (.tmp 45) (.tmp 50) 28 9 (.string ⟨#[]⟩) 16 rfl Tryz.underlying28 info9 rfl (by decide) (by omega) u3 x3_1 (a0.extract (x4_1 : Int).toNat ((wrap64 (x5_1 - 1)) : Int).toNat) [.string (a0.extract (x4_1 : Int).toNat ((wrap64 (x5_1 - 1)) : Int).toNat)] (fun _ => True) (fun _ => False) rfl rfl ?aP (fun _ hk => hk.elim) ?aF ?aO ?aB ?aS ?aL ?_; (case aP => exact rfl); (case aB => exact (by repeat (first | (with_reducible first | exact HB.out | apply below_alloc | apply pw_below_drewN | apply below_drew1) | exact HB.out))); (case aF => exact (fun _ _ => trivial)); (case aO => exact (by (with_reducible repeat (first | apply Kd.R_alloc | apply Kd.R_drewN | apply Kd.R_drew)); exact HO_3.out)); (case aS => exact (below_size (by repeat (first | (with_reducible first | exact HB.out | apply below_alloc | apply pw_below_drewN | apply below_drew1) | exact HB.out)))); (case aL => have := LMc19.out; omega); intro v281 w20 ho hb hg hat; rw [← Ny280.out] at ho; have n0_ := Aside0.mk (hb); have n1_ := Aside0.mk (ho); clear HB; clear HO_3; have HB := n0_; have HO282 := n1_; clear n0_ n1_; clear ho hb hg hat))
               go_roundg kj7
               case measure => have := HK1.out; have := HJ2.out; have := HJ7.out; omega
               case rel => exact ⟨(y280), (wrap64 (x5_1 + 1)), (wrap64 (x5_1 + 1)), (by first | rfl | (simp; done) | (simp [*]; done)), (by first | rfl | (simp; done) | (simp [*]; done)), H', ⟨by have := HK1.out; have := HJ2.out; have := HJ7.out; omega⟩, ⟨by (with_reducible repeat (first | apply Kd.R_alloc | apply Kd.R_drewN | apply Kd.R_drew)); exact HO282.out⟩, ⟨by repeat (first | (with_reducible first | exact HB.out | apply below_alloc | apply pw_below_drewN | apply below_drew1) | exact HB.out)⟩⟩
              ·rw [if_neg c19] at H
               exact absurd H (by simp)
             ·rw [if_neg c18] at H
              exact absurd H (by simp)
            ·rw [if_neg c17] at H
             exact absurd H (by simp)
           ·rw [if_neg c16] at H
            exact absurd H (by simp)
          ·rw [if_neg c15] at H
           have c15b0 : decide (x5_1 < (a0.size : Int)) = false := decide_eq_false c15
           clear c15
           by_cases c21 : (wrap64 (x5_1 - 1)) > x4_1
           ·rw [if_pos c21] at H
            have c21b0 : decide (x4_1 < (wrap64 (x5_1 - 1))) = true := decide_eq_true c21
            clear c21
            by_cases c22 : 0 ≤ x4_1
            ·rw [if_pos c22] at H
             have c22b0 := eq_true c22
             have c22b1 : decide (0 ≤ x4_1) = true := decide_eq_true c22
             clear c22
             by_cases c23 : x4_1 ≤ (wrap64 (x5_1 - 1))
             ·rw [if_pos c23] at H
              have c23b0 := eq_true c23
              have c23b1 : decide (x4_1 ≤ (wrap64 (x5_1 - 1))) = true := decide_eq_true c23
              clear c23
              by_cases c24 : (wrap64 (x5_1 - 1)) ≤ (a0.size : Int)
              ·rw [if_pos c24] at H
               have c24b0 := eq_true c24
               have c24b1 : decide ((wrap64 (x5_1 - 1)) ≤ (a0.size : Int)) = true := decide_eq_true c24
               clear c24
               by_cases c25 : x3_1.length < 8796093022208
               ·rw [if_pos c25] at H
                have LMc25 := Aside0.mk c25
                clear c25
                obtain ⟨y283, hy283⟩ : ∃ y_ : List ByteArray, y_ = (x3_1 ++ [a0.extract (x4_1 : Int).toNat ((wrap64 (x5_1 - 1)) : Int).toNat]) := ⟨_, rfl⟩
                replace H : (lanyardref02_Lines.l0 kj7 a0 y283 (wrap64 (x5_1 + 1)) (wrap64 (x5_1 + 1))) = some r := by first | (rw [hy283]; with_reducible exact H) | (have H2_ := (Option.bind_some _ _).symm.trans H; rw [hy283]; with_reducible exact H2_) | (have H2_ := (Option.bind_some _ _).symm.trans H; with_reducible exact H2_) | with_reducible exact H | (rw [hy283]; exact H) | exact H
                have Ny283 := Aside0.mk hy283
                clear hy283
                have H' := Aside0.mk H
                clear H
                go_wp2_with (first | ((with_reducible refine gate_builtin (b := .append) (xs := #[.tmp 45, .tmp 50]) rfl ?_); at_builtin; refine Kd.R_append Kd.string (w0 := w) w.heap.size rfl (.tmp 45) (.tmp 50) 28 9 (.string ⟨#[]⟩) 16 rfl Tryz.underlying28 info9 rfl (by decide) (by omega) u3 x3_1 (a0.extract (x4_1 : Int).toNat ((wrap64 (x5_1 - 1)) : Int).toNat) [.string (a0.extract (x4_1 : Int).toNat ((wrap64 (x5_1 - 1)) : Int).toNat)] (fun _ => True) (fun _ => False) rfl rfl ?aP (fun _ hk => hk.elim) ?aF ?aO ?aB ?aS ?aL ?_; (case aP => exact rfl); (case aB => exact (by repeat (first | (with_reducible first | exact HB.out | apply below_alloc | apply pw_below_drewN | apply below_drew1) | exact HB.out))); (case aF => exact (fun _ _ => trivial)); (case aO => exact (by (with_reducible repeat (first | apply Kd.R_alloc | apply Kd.R_drewN | apply Kd.R_drew)); exact HO_3.out)); (case aS => exact (below_size (by repeat (first | (with_reducible first | exact HB.out | apply below_alloc | apply pw_below_drewN | apply below_drew1) | exact HB.out)))); (case aL => have := LMc25.out; omega); intro v284 w26 ho hb hg hat; rw [← Ny283.out] at ho; have n0_ := Aside0.mk (hb); have n1_ := Aside0.mk (ho); clear HB; clear HO_3; have HB := n0_; have HO285 := n1_; clear n0_ n1_; clear ho hb hg hat))
                go_roundg kj7
                case measure => have := HK1.out; have := HJ2.out; have := HJ7.out; omega
                case rel => exact ⟨(y283), (wrap64 (x5_1 + 1)), (wrap64 (x5_1 + 1)), (by first | rfl | (simp; done) | (simp [*]; done)), (by first | rfl | (simp; done) | (simp [*]; done)), H', ⟨by have := HK1.out; have := HJ2.out; have := HJ7.out; omega⟩, ⟨by (with_reducible repeat (first | apply Kd.R_alloc | apply Kd.R_drewN | apply Kd.R_drew)); exact HO285.out⟩, ⟨by repeat (first | (with_reducible first | exact HB.out | apply below_alloc | apply pw_below_drewN | apply below_drew1) | exact HB.out)⟩⟩
               ·rw [if_neg c25] at H
                exact absurd H (by simp)
              ·rw [if_neg c24] at H
               exact absurd H (by simp)
             ·rw [if_neg c23] at H
              exact absurd H (by simp)
            ·rw [if_neg c22] at H
             exact absurd H (by simp)
           ·rw [if_neg c21] at H
            have c21b0 : decide (x4_1 < (wrap64 (x5_1 - 1))) = false := decide_eq_false c21
            clear c21
            have H' := Aside0.mk H
            clear H
            go_wp2
            go_roundg kj7
            case measure => have := HK1.out; have := HJ2.out; have := HJ7.out; omega
            case rel => exact ⟨(x3_1), (wrap64 (x5_1 + 1)), (wrap64 (x5_1 + 1)), (by first | rfl | (simp; done) | (simp [*]; done)), (by first | rfl | (simp; done) | (simp [*]; done)), H', ⟨by have := HK1.out; have := HJ2.out; have := HJ7.out; omega⟩, ⟨by (with_reducible repeat (first | apply Kd.R_alloc | apply Kd.R_drewN | apply Kd.R_drew)); exact HO_3.out⟩, ⟨by repeat (first | (with_reducible first | exact HB.out | apply below_alloc | apply pw_below_drewN | apply below_drew1) | exact HB.out)⟩⟩
         ·replace c14 := Bool.eq_false_iff.mpr c14
          subst c14
          have H1 : (if x5_1 < (a0.size : Int) then (if 0 ≤ x4_1 then (if x4_1 ≤ x5_1 then (if x5_1 ≤ (a0.size : Int) then (if x3_1.length < 8796093022208 then (lanyardref02_Lines.l0 kj7 a0 (x3_1 ++ [a0.extract (x4_1 : Int).toNat (x5_1 : Int).toNat]) (wrap64 (x5_1 + 1)) (wrap64 (x5_1 + 1))) else (none)) else (none)) else (none)) else (none)) else (if x5_1 > x4_1 then (if 0 ≤ x4_1 then (if x4_1 ≤ x5_1 then (if x5_1 ≤ (a0.size : Int) then (if x3_1.length < 8796093022208 then (lanyardref02_Lines.l0 kj7 a0 (x3_1 ++ [a0.extract (x4_1 : Int).toNat (x5_1 : Int).toNat]) (wrap64 (x5_1 + 1)) (wrap64 (x5_1 + 1))) else (none)) else (none)) else (none)) else (none)) else (lanyardref02_Lines.l0 kj7 a0 x3_1 (wrap64 (x5_1 + 1)) (wrap64 (x5_1 + 1))))) = some r := by rw [if_neg (show ¬ (false = true) by decide)] at H; exact H
          clear H
          have H := H1
          clear H1
          by_cases c27 : x5_1 < (a0.size : Int)
          ·rw [if_pos c27] at H
           have c27b0 : decide (x5_1 < (a0.size : Int)) = true := decide_eq_true c27
           clear c27
           by_cases c28 : 0 ≤ x4_1
           ·rw [if_pos c28] at H
            have c28b0 := eq_true c28
            have c28b1 : decide (0 ≤ x4_1) = true := decide_eq_true c28
            clear c28
            by_cases c29 : x4_1 ≤ x5_1
            ·rw [if_pos c29] at H
             have c29b0 := eq_true c29
             have c29b1 : decide (x4_1 ≤ x5_1) = true := decide_eq_true c29
             clear c29
             by_cases c30 : x5_1 ≤ (a0.size : Int)
             ·rw [if_pos c30] at H
              have c30b0 := eq_true c30
              have c30b1 : decide (x5_1 ≤ (a0.size : Int)) = true := decide_eq_true c30
              clear c30
              by_cases c31 : x3_1.length < 8796093022208
              ·rw [if_pos c31] at H
               have LMc31 := Aside0.mk c31
               clear c31
               obtain ⟨y286, hy286⟩ : ∃ y_ : List ByteArray, y_ = (x3_1 ++ [a0.extract (x4_1 : Int).toNat (x5_1 : Int).toNat]) := ⟨_, rfl⟩
               replace H : (lanyardref02_Lines.l0 kj7 a0 y286 (wrap64 (x5_1 + 1)) (wrap64 (x5_1 + 1))) = some r := by first | (rw [hy286]; with_reducible exact H) | (have H2_ := (Option.bind_some _ _).symm.trans H; rw [hy286]; with_reducible exact H2_) | (have H2_ := (Option.bind_some _ _).symm.trans H; with_reducible exact H2_) | with_reducible exact H | (rw [hy286]; exact H) | exact H
               have Ny286 := Aside0.mk hy286
               clear hy286
               have H' := Aside0.mk H
               clear H
               go_wp2_with (first | ((with_reducible refine gate_builtin (b := .append) (xs := #[.tmp 45, .tmp 50]) rfl ?_); at_builtin; refine Kd.R_append Kd.string (w0 := w) w.heap.size rfl (.tmp 45) (.tmp 50) 28 9 (.string ⟨#[]⟩) 16 rfl Tryz.underlying28 info9 rfl (by decide) (by omega) u3 x3_1 (a0.extract (x4_1 : Int).toNat (x5_1 : Int).toNat) [.string (a0.extract (x4_1 : Int).toNat (x5_1 : Int).toNat)] (fun _ => True) (fun _ => False) rfl rfl ?aP (fun _ hk => hk.elim) ?aF ?aO ?aB ?aS ?aL ?_; (case aP => exact rfl); (case aB => exact (by repeat (first | (with_reducible first | exact HB.out | apply below_alloc | apply pw_below_drewN | apply below_drew1) | exact HB.out))); (case aF => exact (fun _ _ => trivial)); (case aO => exact (by (with_reducible repeat (first | apply Kd.R_alloc | apply Kd.R_drewN | apply Kd.R_drew)); exact HO_3.out)); (case aS => exact (below_size (by repeat (first | (with_reducible first | exact HB.out | apply below_alloc | apply pw_below_drewN | apply below_drew1) | exact HB.out)))); (case aL => have := LMc31.out; omega); intro v287 w32 ho hb hg hat; rw [← Ny286.out] at ho; have n0_ := Aside0.mk (hb); have n1_ := Aside0.mk (ho); clear HB; clear HO_3; have HB := n0_; have HO288 := n1_; clear n0_ n1_; clear ho hb hg hat))
               go_roundg kj7
               case measure => have := HK1.out; have := HJ2.out; have := HJ7.out; omega
               case rel => exact ⟨(y286), (wrap64 (x5_1 + 1)), (wrap64 (x5_1 + 1)), (by first | rfl | (simp; done) | (simp [*]; done)), (by first | rfl | (simp; done) | (simp [*]; done)), H', ⟨by have := HK1.out; have := HJ2.out; have := HJ7.out; omega⟩, ⟨by (with_reducible repeat (first | apply Kd.R_alloc | apply Kd.R_drewN | apply Kd.R_drew)); exact HO288.out⟩, ⟨by repeat (first | (with_reducible first | exact HB.out | apply below_alloc | apply pw_below_drewN | apply below_drew1) | exact HB.out)⟩⟩
              ·rw [if_neg c31] at H
               exact absurd H (by simp)
             ·rw [if_neg c30] at H
              exact absurd H (by simp)
            ·rw [if_neg c29] at H
             exact absurd H (by simp)
           ·rw [if_neg c28] at H
            exact absurd H (by simp)
          ·rw [if_neg c27] at H
           have c27b0 : decide (x5_1 < (a0.size : Int)) = false := decide_eq_false c27
           clear c27
           by_cases c33 : x5_1 > x4_1
           ·rw [if_pos c33] at H
            have c33b0 : decide (x4_1 < x5_1) = true := decide_eq_true c33
            clear c33
            by_cases c34 : 0 ≤ x4_1
            ·rw [if_pos c34] at H
             have c34b0 := eq_true c34
             have c34b1 : decide (0 ≤ x4_1) = true := decide_eq_true c34
             clear c34
             by_cases c35 : x4_1 ≤ x5_1
             ·rw [if_pos c35] at H
              have c35b0 := eq_true c35
              have c35b1 : decide (x4_1 ≤ x5_1) = true := decide_eq_true c35
              clear c35
              by_cases c36 : x5_1 ≤ (a0.size : Int)
              ·rw [if_pos c36] at H
               have c36b0 := eq_true c36
               have c36b1 : decide (x5_1 ≤ (a0.size : Int)) = true := decide_eq_true c36
               clear c36
               by_cases c37 : x3_1.length < 8796093022208
               ·rw [if_pos c37] at H
                have LMc37 := Aside0.mk c37
                clear c37
                obtain ⟨y289, hy289⟩ : ∃ y_ : List ByteArray, y_ = (x3_1 ++ [a0.extract (x4_1 : Int).toNat (x5_1 : Int).toNat]) := ⟨_, rfl⟩
                replace H : (lanyardref02_Lines.l0 kj7 a0 y289 (wrap64 (x5_1 + 1)) (wrap64 (x5_1 + 1))) = some r := by first | (rw [hy289]; with_reducible exact H) | (have H2_ := (Option.bind_some _ _).symm.trans H; rw [hy289]; with_reducible exact H2_) | (have H2_ := (Option.bind_some _ _).symm.trans H; with_reducible exact H2_) | with_reducible exact H | (rw [hy289]; exact H) | exact H
                have Ny289 := Aside0.mk hy289
                clear hy289
                have H' := Aside0.mk H
                clear H
                go_wp2_with (first | ((with_reducible refine gate_builtin (b := .append) (xs := #[.tmp 45, .tmp 50]) rfl ?_); at_builtin; refine Kd.R_append Kd.string (w0 := w) w.heap.size rfl (.tmp 45) (.tmp 50) 28 9 (.string ⟨#[]⟩) 16 rfl Tryz.underlying28 info9 rfl (by decide) (by omega) u3 x3_1 (a0.extract (x4_1 : Int).toNat (x5_1 : Int).toNat) [.string (a0.extract (x4_1 : Int).toNat (x5_1 : Int).toNat)] (fun _ => True) (fun _ => False) rfl rfl ?aP (fun _ hk => hk.elim) ?aF ?aO ?aB ?aS ?aL ?_; (case aP => exact rfl); (case aB => exact (by repeat (first | (with_reducible first | exact HB.out | apply below_alloc | apply pw_below_drewN | apply below_drew1) | exact HB.out))); (case aF => exact (fun _ _ => trivial)); (case aO => exact (by (with_reducible repeat (first | apply Kd.R_alloc | apply Kd.R_drewN | apply Kd.R_drew)); exact HO_3.out)); (case aS => exact (below_size (by repeat (first | (with_reducible first | exact HB.out | apply below_alloc | apply pw_below_drewN | apply below_drew1) | exact HB.out)))); (case aL => have := LMc37.out; omega); intro v290 w38 ho hb hg hat; rw [← Ny289.out] at ho; have n0_ := Aside0.mk (hb); have n1_ := Aside0.mk (ho); clear HB; clear HO_3; have HB := n0_; have HO291 := n1_; clear n0_ n1_; clear ho hb hg hat))
                go_roundg kj7
                case measure => have := HK1.out; have := HJ2.out; have := HJ7.out; omega
                case rel => exact ⟨(y289), (wrap64 (x5_1 + 1)), (wrap64 (x5_1 + 1)), (by first | rfl | (simp; done) | (simp [*]; done)), (by first | rfl | (simp; done) | (simp [*]; done)), H', ⟨by have := HK1.out; have := HJ2.out; have := HJ7.out; omega⟩, ⟨by (with_reducible repeat (first | apply Kd.R_alloc | apply Kd.R_drewN | apply Kd.R_drew)); exact HO291.out⟩, ⟨by repeat (first | (with_reducible first | exact HB.out | apply below_alloc | apply pw_below_drewN | apply below_drew1) | exact HB.out)⟩⟩
               ·rw [if_neg c37] at H
                exact absurd H (by simp)
              ·rw [if_neg c36] at H
               exact absurd H (by simp)
             ·rw [if_neg c35] at H
              exact absurd H (by simp)
            ·rw [if_neg c34] at H
             exact absurd H (by simp)
           ·rw [if_neg c33] at H
            have c33b0 : decide (x4_1 < x5_1) = false := decide_eq_false c33
            clear c33
            have H' := Aside0.mk H
            clear H
            go_wp2
            go_roundg kj7
            case measure => have := HK1.out; have := HJ2.out; have := HJ7.out; omega
            case rel => exact ⟨(x3_1), (wrap64 (x5_1 + 1)), (wrap64 (x5_1 + 1)), (by first | rfl | (simp; done) | (simp [*]; done)), (by first | rfl | (simp; done) | (simp [*]; done)), H', ⟨by have := HK1.out; have := HJ2.out; have := HJ7.out; omega⟩, ⟨by (with_reducible repeat (first | apply Kd.R_alloc | apply Kd.R_drewN | apply Kd.R_drew)); exact HO_3.out⟩, ⟨by repeat (first | (with_reducible first | exact HB.out | apply below_alloc | apply pw_below_drewN | apply below_drew1) | exact HB.out)⟩⟩
   ·rw [if_neg c2] at H
    have c2b0 : decide (x5_1 ≤ (a0.size : Int)) = false := decide_eq_false c2
    clear c2
    obtain rfl := Option.some.inj H
    go_wp2
    go_ret
    exact ⟨_, by first | rfl | (simp [errW_none, errW_some] <;> rfl) | (simp [*, errW_none, errW_some] <;> rfl), by (with_reducible repeat (first | apply Kd.R_alloc | apply Kd.R_drewN | apply Kd.R_drew)); exact HO_3.out, by repeat (first | (with_reducible first | exact HB.out | apply below_alloc | apply pw_below_drewN | apply below_drew1) | exact HB.out)⟩

end Go.Proofs.YtcbmjmphicfgpaaGreatDoor.PT
end

section
namespace Go.Proofs.YtcbmjmphicfgpaaGreatDoor.PT
open Go.RowKit Go.Proofs.YtcbmjmphicfgpaaGreatDoorW.PrintWords Go.Proofs.YtcbmjmphicfgpaaGreatDoorW.PrintLast Go.Proofs.YtcbmjmphicfgpaaGreatDoorW.PrintMore
attribute [local go_sem] max2_int min2_int max_two min_two max_three min_three max_four min_four   -- for this text's walks alone
set_option linter.unusedVariables false
set_option linter.unusedSimpArgs false

def lanyardref02_Same.l0 : Nat → List ByteArray → List ByteArray → Int → Option (Bool)
 | 0, _, _, _ => none
 | k + 1, x0, x1, x5 => if x5 < (x0.length : Int) then (if 0 ≤ x5 then (if x5 < (x1.length : Int) then (if (rdOf ByteArray.empty x0 x5).toList = (rdOf ByteArray.empty x1 x5).toList then (lanyardref02_Same.l0 k x0 x1 (wrap64 (x5 + 1))) else (some false)) else (none)) else (none)) else (some true)
def lanyardref02_Same.f (k : Nat) (l0 : List ByteArray) (l1 : List ByteArray) : Option (Bool) := if (l0.length : Int) = (l1.length : Int) then (lanyardref02_Same.l0 k l0 l1 0) else (some false)
set_option maxHeartbeats 8000000 in
set_option maxRecDepth 100000 in
theorem lanyardref02_Same.calls (k : Nat) (A0 : Option Addr) (c0 : Nat) (l0 : List ByteArray) (A1 : Option Addr) (c1 : Nat) (l1 : List ByteArray) (r : Bool) (w : World) (hr0 : Kd.C Kd.string w A0 l0.length l0) (hc0 : l0.length ≤ c0) (hr1 : Kd.C Kd.string w A1 l1.length l1) (hc1 : l1.length ≤ c1) (h : lanyardref02_Same.f k l0 l1 = some r) :
 Calls Tryz.prog 48 #[.slice A0 l0.length c0, .slice A1 l1.length c1] w fun e w' => e = .returned (.bool r) ∧ Drawn0 w w' := by
 have HR0 := Aside0.mk hr0
 have HC0 := Aside0.mk hc0
 clear hr0 hc0
 have HR1 := Aside0.mk hr1
 have HC1 := Aside0.mk hc1
 clear hr1 hc1
 have H : (if (l0.length : Int) = (l1.length : Int) then (lanyardref02_Same.l0 k l0 l1 0) else (some false)) = some r := h
 clear h
 by_cases c3 : (l0.length : Int) = (l1.length : Int)
 ·rw [if_pos c3] at H
  have c3b0 : ((l0.length : Int) == (l1.length : Int)) = true := beq_iff_eq.mpr c3
  have c3b1 : ((l0.length : Int) != (l1.length : Int)) = false := bne_eq_false_iff_eq.mpr c3
  have c3b2 : (l0.length == l1.length) = true := by first | simpa using c3 | (simp at c3 ⊢; omega)
  clear c3
  have H' := Aside0.mk H
  clear H
  go_enter Tryz.func48, Tryz.ntmps48
  go_wp2
  repeat (go_quiet (fail); try go_wp2)
  go_loopg [5] k (fun kq v5 w' => ∃ (x5_1 : Int), v5 = .int .i64 x5_1 ∧ Aside0 (lanyardref02_Same.l0 kq l0 l1 x5_1 = some r) ∧ Aside0 (kq ≤ k) ∧ Drawn0 w w')
  case atStart => exact ⟨(0), (by first | rfl | (simp; done) | (simp [*]; done)), H', ⟨Nat.le_refl _⟩, by repeat (first | exact Drawn0.refl _ | apply Drawn0.step)⟩
  case round =>
   clear H'
   try clear c1
   try clear p2
   try clear c3
   try clear c3b0
   try clear c3b1
   try clear c3b2
   obtain ⟨x5_1, rfl, HA, HK1, ⟨m1, rfl⟩⟩ := hrel
   cases gk with
   | zero => exact absurd HA.out (by simp [lanyardref02_Same.l0])
   | succ k1 =>
    have H := HA.out
    clear HA
    simp only [lanyardref02_Same.l0] at H
    by_cases c4 : x5_1 < (l0.length : Int)
    ·rw [if_pos c4] at H
     have c4b0 : decide (x5_1 < (l0.length : Int)) = true := decide_eq_true c4
     clear c4
     by_cases c5 : 0 ≤ x5_1
     ·rw [if_pos c5] at H
      have c5b0 : decide (0 ≤ x5_1) = true := decide_eq_true c5
      clear c5
      by_cases c6 : x5_1 < (l1.length : Int)
      ·rw [if_pos c6] at H
       have c6b0 : decide (x5_1 < (l1.length : Int)) = true := decide_eq_true c6
       clear c6
       by_cases c7 : (rdOf ByteArray.empty l0 x5_1).toList = (rdOf ByteArray.empty l1 x5_1).toList
       ·rw [if_pos c7] at H
        have c7b0 : ((rdOf ByteArray.empty l0 x5_1).toList == (rdOf ByteArray.empty l1 x5_1).toList) = true := beq_iff_eq.mpr c7
        have c7b1 : ((rdOf ByteArray.empty l0 x5_1).toList != (rdOf ByteArray.empty l1 x5_1).toList) = false := bne_eq_false_iff_eq.mpr c7
        clear c7
        have H' := Aside0.mk H
        clear H
        have p278 : 0 ≤ (x5_1 : Int) := of_decide_eq_true (by first | (with_reducible assumption) | assumption)
        have q278 : x5_1 < (l0.length : Int) := of_decide_eq_true (by first | (with_reducible assumption) | assumption)
        obtain ⟨ad278, e278, hx278_0⟩ := Kd.at_string HR0.out x5_1 p278 q278
        cases e278
        replace p278 := eq_true p278
        replace q278 := eq_true q278
        have p279 : 0 ≤ (x5_1 : Int) := of_decide_eq_true (by first | (with_reducible assumption) | assumption)
        have q279 : x5_1 < (l1.length : Int) := of_decide_eq_true (by first | (with_reducible assumption) | assumption)
        obtain ⟨ad279, e279, hx279_0⟩ := Kd.at_string HR1.out x5_1 p279 q279
        cases e279
        replace p279 := eq_true p279
        replace q279 := eq_true q279
        go_wp2
        repeat (go_quiet (fail); try go_wp2)
        go_roundg k1
        case measure => have := HK1.out; omega
        case rel => exact ⟨(wrap64 (x5_1 + 1)), (by first | rfl | (simp; done) | (simp [*]; done)), H', ⟨by have := HK1.out; omega⟩, by repeat (first | exact Drawn0.refl _ | apply Drawn0.step)⟩
       ·rw [if_neg c7] at H
        have c7b0 : ((rdOf ByteArray.empty l0 x5_1).toList == (rdOf ByteArray.empty l1 x5_1).toList) = false := beq_eq_false_iff_ne.mpr c7
        have c7b1 : ((rdOf ByteArray.empty l0 x5_1).toList != (rdOf ByteArray.empty l1 x5_1).toList) = true := bne_iff_ne.mpr c7
        obtain rfl := Option.some.inj H
        have p278 : 0 ≤ (x5_1 : Int) := of_decide_eq_true (by first | (with_reducible assumption) | assumption)
        have q278 : x5_1 < (l0.length : Int) := of_decide_eq_true (by first | (with_reducible assumption) | assumption)
        obtain ⟨ad278, e278, hx278_0⟩ := Kd.at_string HR0.out x5_1 p278 q278
        cases e278
        replace p278 := eq_true p278
        replace q278 := eq_true q278
        have p279 : 0 ≤ (x5_1 : Int) := of_decide_eq_true (by first | (with_reducible assumption) | assumption)
        have q279 : x5_1 < (l1.length : Int) := of_decide_eq_true (by first | (with_reducible assumption) | assumption)
        obtain ⟨ad279, e279, hx279_0⟩ := Kd.at_string HR1.out x5_1 p279 q279
        cases e279
        replace p279 := eq_true p279
        replace q279 := eq_true q279
        go_wp2
        repeat (go_quiet (fail); try go_wp2)
        go_ret
        exact ⟨by first | rfl | (simp; done) | (simp [*]; done), by repeat (first | exact Drawn0.refl _ | apply Drawn0.step)⟩
      ·rw [if_neg c6] at H
       exact absurd H (by simp)
     ·rw [if_neg c5] at H
      exact absurd H (by simp)
    ·rw [if_neg c4] at H
     have c4b0 : decide (x5_1 < (l0.length : Int)) = false := decide_eq_false c4
     clear c4
     obtain rfl := Option.some.inj H
     go_wp2
     repeat (go_quiet (fail); try go_wp2)
     go_ret
     exact ⟨by first | rfl | (simp; done) | (simp [*]; done), by repeat (first | exact Drawn0.refl _ | apply Drawn0.step)⟩
 ·rw [if_neg c3] at H
  have c3b0 : ((l0.length : Int) == (l1.length : Int)) = false := beq_eq_false_iff_ne.mpr c3
  have c3b1 : ((l0.length : Int) != (l1.length : Int)) = true := bne_iff_ne.mpr c3
  have c3b2 : (l0.length == l1.length) = false := by first | simpa using c3 | (simp at c3 ⊢; omega)
  obtain rfl := Option.some.inj H
  go_enter Tryz.func48, Tryz.ntmps48
  go_wp2
  repeat (go_quiet (fail); try go_wp2)
  go_ret
  exact ⟨by first | rfl | (simp; done) | (simp [*]; done), by repeat (first | exact Drawn0.refl _ | apply Drawn0.step)⟩

end Go.Proofs.YtcbmjmphicfgpaaGreatDoor.PT
end

section
namespace Go.Proofs.YtcbmjmphicfgpaaGreatDoor.PT
open Go.RowKit Go.Proofs.YtcbmjmphicfgpaaGreatDoorW.PrintWords Go.Proofs.YtcbmjmphicfgpaaGreatDoorW.PrintLast Go.Proofs.YtcbmjmphicfgpaaGreatDoorW.PrintMore
attribute [local go_sem] max2_int min2_int max_two min_two max_three min_three max_four min_four   -- for this text's walks alone
set_option linter.unusedVariables false
set_option linter.unusedSimpArgs false

end Go.Proofs.YtcbmjmphicfgpaaGreatDoor.PT
end

section
set_option linter.unusedVariables false
namespace Go.Proofs.YtcbmjmphicfgpaaGreatDoor.LinQ
open Go.RowKit Go.Proofs.YtcbmjmphicfgpaaGreatDoor.PT Go.Proofs.YtcbmjmphicfgpaaGreatDoorW.PrintWords Go.Proofs.YtcbmjmphicfgpaaGreatDoorW.PrintLast Go.Proofs.YtcbmjmphicfgpaaGreatDoorW.PrintMore

theorem wsucc (k : Nat) (h : k ≤ 1000000000000) : wrap64 ((k : Int) + 1) = ((k + 1 : Nat) : Int) := by unfold wrap64; omega
theorem wpred (k : Nat) (h : k ≤ 1000000000000) (h0 : 0 < k) : wrap64 ((k : Int) - 1) = ((k - 1 : Nat) : Int) := by unfold wrap64; omega
theorem size_len (s : ByteArray) : s.data.toList.length = s.size := rfl
theorem bt_list (s : ByteArray) (i : Nat) (h : i < s.size) : bt s (i : Int) = ((s.data.toList[i]'(by rw [size_len]; exact h)).toNat : Int) := by
 have := bt_at s (i : Int) (by simpa using h)
 rw [← this]
 simp [ByteArray.getElem_eq_getElem_data]
theorem byte_iff (b c : UInt8) (n : Nat) (hc : c.toNat = n) : ((b.toNat : Int) = (n : Int)) ↔ b = c := by
 constructor
 ·intro h
  exact UInt8.toNat_inj.1 (by omega)
 ·rintro rfl
  omega
def cut (t : List UInt8) (a b : Nat) : List UInt8 := (t.drop a).take (b - a)
theorem extract_cut (s : ByteArray) (a b : Nat) : (s.extract a b).data.toList = cut s.data.toList a b := by
 rw [Lib.extract_data]
 rfl
theorem cut_snoc {t : List UInt8} {a i : Nat} (h : a ≤ i) (hi : i < t.length) : cut t a (i + 1) = cut t a i ++ [t[i]] := by
 unfold cut
 have e : i + 1 - a = (i - a) + 1 := by omega
 rw [e, List.take_succ_eq_append_getElem (by simp; omega)]
 congr 2
 simp [List.getElem_drop]
 congr 1
 omega
theorem cut_all (t : List UInt8) (a : Nat) : cut t a t.length = t.drop a := List.take_of_length_le (by simp)
theorem drop_cut {t : List UInt8} {a i : Nat} (h : a ≤ i) (hi : i < t.length) : t.drop a = cut t a i ++ t[i] :: t.drop (i + 1) := by
 unfold cut
 rw [← List.drop_eq_getElem_cons hi]
 have : t.drop i = (t.drop a).drop (i - a) := by rw [List.drop_drop]; congr 1; omega
 rw [this, List.take_append_drop]
theorem trim_yes {t : List UInt8} {a i : Nat} (h : a < i) (hi : i ≤ t.length) (hb : t[i - 1] = 13) : Lin.trimCR (cut t a i) = cut t a (i - 1) := by
 obtain ⟨j, rfl⟩ : ∃ j, i = j + 1 := ⟨i - 1, by omega⟩
 simp only [Nat.add_sub_cancel] at hb ⊢
 rw [cut_snoc (by omega) (by omega), hb]
 unfold Lin.trimCR
 simp
theorem trim_no {t : List UInt8} {a i : Nat} (h : a < i) (hi : i ≤ t.length) (hb : t[i - 1] ≠ 13) : Lin.trimCR (cut t a i) = cut t a i := by
 obtain ⟨j, rfl⟩ : ∃ j, i = j + 1 := ⟨i - 1, by omega⟩
 simp only [Nat.add_sub_cancel] at hb
 rw [cut_snoc (by omega) (by omega)]
 unfold Lin.trimCR
 simp [hb]
theorem trim_none (t : List UInt8) (a : Nat) : Lin.trimCR (cut t a a) = [] := by
 unfold cut Lin.trimCR
 simp
theorem cut_length {t : List UInt8} {a i : Nat} (hi : i ≤ t.length) : (cut t a i).length = i - a := by unfold cut; simp; omega


theorem j2_go (s : ByteArray) (hs : s.size ≤ 1000000000) (out : List ByteArray) (hout : out.length ≤ 1000000001) (a i : Nat) (cr : Bool) (h1 : a ≤ i) (h2 : i ≤ s.size) (hc : cr = true → a < i) (k : Nat) :
 lanyardref02_Lines.j2 (k + 1) s out a i i cr = if i < s.size ∨ a < i - cr.toNat then lanyardref02_Lines.l0 k s (out ++ [s.extract a (i - cr.toNat)]) ((i + 1 : Nat) : Int) ((i + 1 : Nat) : Int) else lanyardref02_Lines.l0 k s out ((i + 1 : Nat) : Int) ((i + 1 : Nat) : Int) := by
 rw [lanyardref02_Lines.j2, wsucc i (by omega)]
 cases cr with
 | true =>
  have ha := hc rfl
  rw [if_pos rfl, wpred i (by omega) (by omega)]
  simp only [Bool.toNat_true, Int.toNat_natCast]
  by_cases hi : i < s.size
  ·rw [if_pos (by omega), if_pos (by omega), if_pos (by omega), if_pos (by omega), if_pos (by omega), if_pos (.inl hi)]
  ·rw [if_neg (by omega)]
   by_cases hl : a < i - 1
   ·rw [if_pos (by omega), if_pos (by omega), if_pos (by omega), if_pos (by omega), if_pos (by omega), if_pos (.inr hl)]
   ·rw [if_neg (by omega), if_neg (by omega)]
 | false =>
  rw [if_neg (by simp)]
  simp only [Bool.toNat_false, Nat.sub_zero, Int.toNat_natCast]
  by_cases hi : i < s.size
  ·rw [if_pos (by omega), if_pos (by omega), if_pos (by omega), if_pos (by omega), if_pos (by omega), if_pos (.inl hi)]
  ·rw [if_neg (by omega)]
   by_cases hl : a < i
   ·rw [if_pos (by omega), if_pos (by omega), if_pos (by omega), if_pos (by omega), if_pos (by omega), if_pos (.inr hl)]
   ·rw [if_neg (by omega), if_neg (by omega)]

/-- Whether a carriage return stands ahead of i. -/
def crB (s : ByteArray) (a i : Nat) : Bool := decide (a < i) && (bt s ((i - 1 : Nat) : Int) == 13)
theorem j1_go (s : ByteArray) (hs : s.size ≤ 1000000000) (out : List ByteArray) (a i : Nat) (h1 : a ≤ i) (h2 : i ≤ s.size) (k : Nat) :
 lanyardref02_Lines.j1 (k + 1) s out a i false = lanyardref02_Lines.j2 k s out a i i (crB s a i) := by
 rw [lanyardref02_Lines.j1, if_neg (by simp)]
 unfold crB
 by_cases h : a < i
 ·rw [if_pos (by omega), wpred i (by omega) (by omega), if_pos (by omega), if_pos (by omega), decide_eq_true h, Bool.true_and]
 ·rw [if_neg (by omega), decide_eq_false h, Bool.false_and]
theorem crB_trim (s : ByteArray) (a i : Nat) (h1 : a ≤ i) (h2 : i ≤ s.size) : Lin.trimCR (cut s.data.toList a i) = cut s.data.toList a (i - (crB s a i).toNat) := by
 have hl := size_len s
 unfold crB
 by_cases h : a < i
 ·rw [decide_eq_true h, Bool.true_and, bt_list s (i - 1) (by omega)]
  by_cases hb : s.data.toList[i - 1]'(by omega) = 13
  ·rw [hb]
   exact trim_yes h (by omega) hb
  ·have e : (((s.data.toList[i - 1]'(by omega)).toNat : Int) == 13) = false := by
    rw [beq_eq_false_iff_ne]
    exact fun q => hb ((byte_iff _ 13 13 rfl).1 q)
   rw [e]
   exact trim_no h (by omega) hb
 ·rw [decide_eq_false h, Bool.false_and]
  obtain rfl : a = i := by omega
  rw [trim_none]
  unfold cut
  simp
def LL (t : List UInt8) (a : Nat) : List (List UInt8) := if a ≤ t.length then Lin.linesS (t.drop a) else []

theorem lines_l0 (s : ByteArray) (hs : s.size ≤ 1000000000) : ∀ (n i a : Nat) (out : List ByteArray), i + n = s.size + 1 → out.length ≤ a → a ≤ i → (∀ b, b ∈ cut s.data.toList a i → b ≠ 10) → (i = s.size + 1 → a = i) →
 ∃ k R, lanyardref02_Lines.l0 k s out a i = some (out ++ R) ∧ R.map (·.data.toList) = LL s.data.toList a
 | 0, i, a, out, h, ho, h1, hno, he => by
  refine ⟨1, [], ?_, ?_⟩
  ·rw [lanyardref02_Lines.l0, if_neg (by omega), List.append_nil]
  ·unfold LL
   rw [size_len, if_neg (by have := he (by omega); omega)]
   rfl
 | n + 1, i, a, out, h, ho, h1, hno, he => by
  have hl := size_len s
  have hi : i ≤ s.size := by omega
  have hcr := crB_trim s a i h1 hi
  have hcr1 : crB s a i = true → a < i := fun q => by unfold crB at q; rw [Bool.and_eq_true] at q; exact of_decide_eq_true q.1
  have htn : (crB s a i).toNat ≤ 1 := by cases crB s a i <;> simp
  by_cases hlt : i < s.size
  ·by_cases hb : s.data.toList[i]'(by omega) = 10
   ·obtain ⟨k, R, hk, hR⟩ := lines_l0 s hs n (i + 1) (i + 1) (out ++ [s.extract a (i - (crB s a i).toNat)]) (by omega) (by rw [List.length_append, List.length_singleton]; omega) (Nat.le_refl _) (fun b hb => by unfold cut at hb; simp at hb) (fun _ => rfl)
    refine ⟨k + 3, s.extract a (i - (crB s a i).toNat) :: R, ?_, ?_⟩
    ·rw [lanyardref02_Lines.l0, if_pos (by omega), if_pos (by omega), if_pos (by omega), bt_list s i hlt, hb]
     rw [show (((10 : UInt8).toNat : Int) != 10) = false from rfl, j1_go s hs out a i h1 hi, j2_go s hs out (by omega) a i _ h1 hi hcr1, if_pos (.inl hlt), hk, List.append_assoc]
     rfl
    ·rw [List.map_cons, hR, extract_cut, ← hcr]
     unfold LL
     rw [if_pos (by omega), if_pos (by omega), drop_cut h1 (show i < s.data.toList.length by omega), hb, Lin.lines_cut _ _ hno]
   ·obtain ⟨k, R, hk, hR⟩ := lines_l0 s hs n (i + 1) a out (by omega) ho (by omega) (fun b hb' => by
     rw [cut_snoc h1 (show i < s.data.toList.length by omega)] at hb'
     rcases List.mem_append.1 hb' with hb' | hb'
     ·exact hno b hb'
     ·rw [List.mem_singleton.1 hb']; exact hb) (fun e => by omega)
    refine ⟨k + 2, R, ?_, hR⟩
    have e : (((s.data.toList[i]'(by omega)).toNat : Int) != 10) = true := by
     rw [bne_iff_ne]
     exact fun q => hb ((byte_iff _ 10 10 rfl).1 q)
    rw [lanyardref02_Lines.l0, if_pos (by omega), if_pos (by omega), if_pos (by omega), bt_list s i hlt, e, lanyardref02_Lines.j1, if_pos rfl, wsucc i (by omega)]
    exact hk
  ·have hie : i = s.size := by omega
   have ht : s.data.toList.drop a = cut s.data.toList a i := by rw [← cut_all, hl, hie]
   have hLL : LL s.data.toList a = if Lin.trimCR (cut s.data.toList a i) = [] then [] else [Lin.trimCR (cut s.data.toList a i)] := by
    unfold LL
    rw [if_pos (by omega), ht, Lin.lines_none _ hno]
   have hcl := cut_length (t := s.data.toList) (a := a) (i := i - (crB s a i).toNat) (by omega)
   have hstep : ∀ k, lanyardref02_Lines.l0 (k + 3) s out a i = if a < i - (crB s a i).toNat then lanyardref02_Lines.l0 k s (out ++ [s.extract a (i - (crB s a i).toNat)]) ((i + 1 : Nat) : Int) ((i + 1 : Nat) : Int) else lanyardref02_Lines.l0 k s out ((i + 1 : Nat) : Int) ((i + 1 : Nat) : Int) := by
    intro k
    rw [lanyardref02_Lines.l0, if_pos (by omega), if_neg (by omega), j1_go s hs out a i h1 hi, j2_go s hs out (by omega) a i _ h1 hi hcr1]
    simp only [hlt, false_or]
   by_cases hne : a < i - (crB s a i).toNat
   ·refine ⟨4, [s.extract a (i - (crB s a i).toNat)], ?_, ?_⟩
    ·rw [hstep, if_pos hne, lanyardref02_Lines.l0, if_neg (by omega)]
    ·rw [hLL, hcr, if_neg (fun q => by rw [q] at hcl; simp at hcl; omega), List.map_cons, extract_cut]
     rfl
   ·refine ⟨4, [], ?_, ?_⟩
    ·rw [hstep, if_neg hne, lanyardref02_Lines.l0, if_neg (by omega), List.append_nil]
    ·rw [hLL, hcr, if_pos (List.length_eq_zero_iff.1 (by omega))]
     rfl

theorem map_data_inj : ∀ {a b : List ByteArray}, a.map (·.data.toList) = b.map (·.data.toList) → a = b
 | [], [], _ => rfl
 | [], _ :: _, h => by simp at h
 | _ :: _, [], h => by simp at h
 | x :: a, y :: b, h => by
  simp only [List.map_cons, List.cons.injEq] at h
  rw [map_data_inj h.2, WideShapes.bytes_inj h.1]
theorem reflines_f (s : ByteArray) (hs : s.size ≤ 1000000000) : ∃ k, lanyardref02_Lines.f k s = some (Spl.linesR s) := by
 obtain ⟨k, R, hk, hR⟩ := lines_l0 s hs (s.size + 1) 0 0 [] (by omega) (by simp) (Nat.le_refl _) (fun b hb => by unfold cut at hb; simp at hb) (fun e => by omega)
 refine ⟨k, ?_⟩
 have : Spl.linesR s = R := map_data_inj (by rw [Spl.linesR_data, hR]; unfold LL; rw [if_pos (Nat.zero_le _), List.drop_zero])
 rw [this]
 rw [List.nil_append] at hk
 exact hk

theorem same_l0 (a : List ByteArray) (hm : a.length ≤ 1000000000) (j : Nat) : ∀ (n i : Nat), i + n = a.length → lanyardref02_Same.l0 (n + j + 1) a a i = some true
 | 0, i, h => by rw [lanyardref02_Same.l0, if_neg (by omega)]
 | n + 1, i, h => by
  rw [lanyardref02_Same.l0, if_pos (by omega), if_pos (by omega), if_pos (by omega), if_pos rfl, wsucc i (by omega), show n + 1 + j = n + j + 1 by omega]
  exact same_l0 a hm j n (i + 1) (by omega)
theorem same_f (a : List ByteArray) (hm : a.length ≤ 1000000000) (k : Nat) (hk : a.length < k) : lanyardref02_Same.f k a a = some true := by
 obtain ⟨j, rfl⟩ : ∃ j, k = a.length + j + 1 := ⟨k - a.length - 1, by omega⟩
 unfold lanyardref02_Same.f
 rw [if_pos rfl]
 exact same_l0 a hm j a.length 0 (by omega)
end Go.Proofs.YtcbmjmphicfgpaaGreatDoor.LinQ
end

section
set_option linter.unusedVariables false
set_option linter.unusedSimpArgs false
namespace Go.Proofs.YtcbmjmphicfgpaaGreatDoor.Tal
open Go.RowKit Go.Shelf Go.Proofs.YtcbmjmphicfgpaaGreatDoorW.PrintWords Go.Proofs.YtcbmjmphicfgpaaGreatDoorW.PrintLast Go.Proofs.YtcbmjmphicfgpaaGreatDoorW.PrintMore Go.Proofs.YtcbmjmphicfgpaaGreatDoor.PT

theorem infoStr : (Tryz.prog.info? 9).map (fun i => (i.zero, i.size, i.bytes)) = some (some (.string ByteArray.empty), 1, 16) := by kernel_rfl
theorem one_str (x : ByteArray) (W : World) : Kd.string.C (W.alloc (.cells #[.string x] 9)) (some ⟨W.heap.size, 0, none⟩) 1 [x] :=
 (Kd.R_reads' (Spl.own_strings [x] W W.heap.size (Nat.le_refl _) (by simp [maxLen]) (by simp))).2.2
def PartsPost (s : ByteArray) (w : World) (e : Ending) (w' : World) : Prop := ∃ v, e = .returned (.tuple #[v, .string (signsB (Spl.linesR s))]) ∧ Kd.R Kd.string 9 w' w.heap.size (fun _ => True) v (urisB (Spl.linesR s)) ∧ Below w.heap.size w w'

set_option maxHeartbeats 4000000 in
set_option maxRecDepth 100000 in
theorem parts_walk (s : ByteArray) (w : World) (hs : s.size ≤ 1000000) :
 Calls Tryz.prog 40 #[.string s] w (PartsPost s w) := by
 obtain ⟨i0, hi, _, hsz, _⟩ := info_parts infoStr
 have hlw := Spl.lines_walk s w (by omega)
 have hll := lines_len s
 have hls := lines_sum s
 show Calls _ _ _ _ fun e w' => ∃ v, e = .returned (.tuple #[v, .string (signsB (Spl.linesR s))]) ∧ Kd.R Kd.string 9 w' w.heap.size (fun _ => True) v (urisB (Spl.linesR s)) ∧ Below w.heap.size w w'
 generalize Spl.linesR s = L at hlw hll hls ⊢
 have HSG := Lib.hid (show signsB L = bareB (flatB (behindB L)) from rfl)
 obtain ⟨sg, hsg⟩ : ∃ sg, sg = signsB L := ⟨_, rfl⟩
 obtain ⟨us, hus⟩ : ∃ us, us = urisB L := ⟨_, rfl⟩
 rw [← hsg, ← hus]
 rw [← hsg] at HSG
 have HUS := Lib.hid hus
 have HLS := Lib.hid hls
 have HLW := Lib.hid hlw
 clear hus hsg hls hlw
 go_enter Tryz.func40, Tryz.ntmps40
 go_wp2
 go_step3
 go_wp2_with (fail)
 refine HLW.out.mono ?_
 rintro e w1 ⟨v, rfl, ho, hb⟩
 obtain ⟨A, c, rfl⟩ := Kd.R_slice ho
 have hr1 := Kd.R_reads' ho
 have HB := Lib.hid hb
 have HC := Lib.hid hr1.2.2
 have hc := hr1.2.1
 clear ho hr1 hb HLW
 go_wp2
 go_loop [4] (fun v => ∃ (A' : Option Addr) (rest : List ByteArray) (c' : Nat), v = .slice A' rest.length c' ∧ rest.length ≤ c' ∧ rest.length ≤ L.length ∧ Hid (Kd.string.C w1 A' rest.length rest) ∧ Hid (restH L = rest.dropWhile hashB) ∧ Hid ((flatB rest).size ≤ s.size)) (fun v => Rad.lenOfV v)
 case atStart => exact ⟨A, L, c, rfl, hc, Nat.le_refl _, HC, Lib.hid rfl, HLS⟩
 case round =>
  obtain ⟨A', rest, c', rfl, hc', hle, HC', HRH, HSZ⟩ := hrel
  clear HC hc
  have hfin : (rest = [] ∨ ∃ x r, rest = x :: r ∧ hashB x = false) ∨ ∃ x r, rest = x :: r ∧ hashB x = true := by
   cases rest with
   | nil => exact .inl (.inl rfl)
   | cons x r =>
    cases h : hashB x with
    | false => exact .inl (.inr ⟨x, r, rfl, h⟩)
    | true => exact .inr ⟨x, r, rfl, h⟩
  rcases hfin with hfin | ⟨x, r, rfl, hx⟩
  ·have hrest : restH L = rest := by
    rw [HRH.out]
    rcases hfin with rfl | ⟨x, r, rfl, hx⟩
    ·rfl
    ·rw [List.dropWhile_cons_of_neg (by rw [hx]; simp)]
   have HREST := Lib.hid hrest
   clear hrest HRH
   have hway : (decide ((0 : Int) < (rest.length : Int)) = false ∧ rest.length = 0) ∨ ∃ ad x, A' = some ad ∧ decide ((0 : Int) < (rest.length : Int)) = true ∧ 0 < rest.length ∧ w1.cell? ad = some (.string x) ∧ hashB x = false := by
    rcases hfin with rfl | ⟨x, r, rfl, hx⟩
    ·exact .inl ⟨rfl, rfl⟩
    ·obtain ⟨ad, e, q0⟩ := Kd.at_string HC'.out 0 (by omega) (by simp)
     exact .inr ⟨ad, x, e, decide_eq_true (by simp), by simp, q0, hx⟩
   clear hfin
   have HB1 : Hid (∀ wr, Below w1.heap.size w1 wr → Below w.heap.size w wr) := Lib.hid (fun wr h => HB.out.trans (h.mono HB.out.size))
   rcases hway with ⟨d0, dl⟩ | ⟨ad, x, rfl, d0, dl, q0, hx⟩
   case' inl =>
    have d1 := eq_false (show ¬ (0 : Int) < (rest.length : Int) by omega)
    have d2 := eq_false (show ¬ 0 < rest.length by omega)
    have d3 : decide (0 < rest.length) = false := decide_eq_false (by omega)
    clear dl
    go_wp2
    clear d1 d2 d3
   case' inr =>
    have d1 := eq_true (show (0 : Int) < (rest.length : Int) by omega)
    have hpf := flip (Tryz.strings_HasPrefix x ⟨#[35]⟩ w1)
    rw [hasPrefix_hash, hx] at hpf
    clear hx
    go_wp2_with (fail)
    refine hpf.mono ?_
    rintro e w2 ⟨rfl, rfl⟩
    clear hpf
    go_wp2
    clear q0 d1 dl
    generalize (some ad : Option Addr) = A' at HC' ⊢
   all_goals clear d0
   all_goals go_step3
   all_goals go_wp2
   all_goals go_loopw [2, 3, 22] (fun uv sv iv wr => ∃ k : Nat, k ≤ rest.length ∧ iv = .int .i64 k ∧ sv = .string ⟨#[]⟩ ∧ Hid (Kd.R Kd.string 9 wr w1.heap.size (fun _ => True) uv (rest.take k)) ∧ Hid (∀ y ∈ rest.take k, fullB y = true) ∧ Hid (Below w1.heap.size w1 wr)) (fun _ _ iv _ => rest.length - (intOf iv).toNat)
   all_goals try (case atStart => exact ⟨0, by omega, rfl, rfl, Lib.hid (Kd.R_nil _ _ _ _ _), Lib.hid (by simp), Lib.hid (Below.refl _ _)⟩)
   all_goals (obtain ⟨k, hk, rfl, rfl, HO, HALL, HBR⟩ := hrel)
   all_goals
    by_cases hlt : k < rest.length
    ·obtain ⟨ad2, e, q1⟩ := Kd.at_string (Kd.C_below HC'.out HBR.out) (k : Int) (by omega) (by omega)
     obtain ⟨Bu, cu, rfl⟩ := Kd.R_slice HO.out
     cases e
     have hx0 : rdOf ByteArray.empty rest (k : Int) = rest[k] := by simp [rdOf, List.getD_eq_getElem?_getD, List.getElem?_eq_getElem hlt]
     rw [hx0] at q1
     simp only [Int.toNat_natCast] at q1
     obtain ⟨x, hx⟩ : ∃ x, rest[k] = x := ⟨_, rfl⟩
     rw [hx] at q1
     have htk : rest.take (k + 1) = rest.take k ++ [x] := by rw [← hx]; exact (List.take_append_getElem hlt).symm
     have hgx : rest[k]? = some x := by rw [List.getElem?_eq_getElem hlt, hx]
     have htl : (rest.take k).length = k := by simp; omega
     have HO2 : Hid (Kd.R Kd.string 9 wr w1.heap.size (fun _ => True) (.slice Bu k cu) (rest.take k)) := Lib.hid (by have h := HO.out; rw [htl] at h; exact h)
     rw [htl]
     have HTK := Lib.hid (And.intro htk (And.intro hgx htl))
     clear hx0 hx htk hgx htl HO
     by_cases hfx : fullB x = true
     ·have hE : x.toList.isEmpty = false := by
       rw [toList_data]
       unfold fullB at hfx
       simpa using hfx
      have HFX := Lib.hid hfx
      clear hfx
      go_wp2_with ((with_reducible refine Rad.at_dst 38 ?_); (refine Kd.R_append_row Value.string ByteArray.empty (h1 := fun _ => rfl) (w0 := w1) w1.heap.size rfl (.tmp 35) (.tmp 37) 28 9 (.string ByteArray.empty) 16 rfl Tryz.underlying28 infoStr rfl (by decide) _ (rest.take k) [x] _ _ _ (fun _ => True) rfl rfl (fun _ _ => trivial) (by exact Kd.R_alloc HO2.out _) (by exact one_str x wr) (by exact below_alloc HBR.out _) (by exact (below_alloc HBR.out _).size) (by rw [HTK.out.2.2]; omega) ?_); intro v2 w2 ho2 hb2 _ _; rw [← HTK.out.1] at ho2; have HO3 := Lib.hid ho2; have HB3 := Lib.hid hb2; clear ho2 hb2)
      go_roundw
      case rel => exact ⟨k + 1, by omega, by go_num, rfl, HO3, Lib.hid (fun y hy => by
       rw [HTK.out.1] at hy
       rcases List.mem_append.1 hy with hy | hy
       ·exact HALL.out y hy
       ·rw [List.mem_singleton.1 hy]; exact HFX.out), HB3⟩
      case measure => simp [intOf]; omega
     ·have hE : x.toList.isEmpty = true := by
       rw [toList_data]
       unfold fullB at hfx
       simpa using hfx
      have hbd := behind_drop HREST.out HTK.out.2.1 HALL.out (by simpa using hfx)
      have HU : Hid (us = rest.take k) := Lib.hid (HUS.out.trans hbd.1)
      have HG : Hid (sg = bareB (flatB (rest.drop (k + 1)))) := Lib.hid (by rw [HSG.out, hbd.2])
      obtain ⟨A2, hcut, hcr, hcc2⟩ := print_drop_of (P := Tryz.prog) Value.string ByteArray.empty 28 9 .i64 Tryz.underlying28 hi hsz (some ad2) c' rest ((k : Int) + 1) (by omega) (by omega) hc'
      have ek : ((k : Int) + 1).toNat = k + 1 := by omega
      rw [ek] at hcut hcr hcc2
      have hcr2 := Kd.C_of_reads (h1 := fun _ => rfl) (hcr wr (Kd.reads_of_C (Kd.C_below HC'.out HBR.out)))
      have hfs := flat_drop rest (k + 1)
      have hsz2 := HSZ.out
      have HJ := Lib.hid (join0_walk A2 (c' - (k + 1)) (rest.drop (k + 1)) wr hcr2 hcc2 (by simp; omega) (by omega))
      have hrl : (rest.drop (k + 1)).length = rest.length - (k + 1) := by simp
      have HBA := Lib.hid (fun w3 => Rad.bare_walk (flatB (rest.drop (k + 1))) w3 (by omega))
      have HUR : Hid (∀ w2, Below wr.heap.size wr w2 → Kd.R Kd.string 9 w2 w.heap.size (fun _ => True) (.slice Bu k cu) us) := Lib.hid (fun w2 h => by rw [HU.out]; exact Kd.R_lower (Kd.R_below HO2.out h) HB.out.size)
      clear hfx hbd hcr hcr2 hfs hsz2 ek hcc2
      generalize (rest.drop (k + 1)).length = m at hcut HJ hrl
      generalize flatB (rest.drop (k + 1)) = y at HJ HBA HG
      clear hrl
      go_wp2_with (fail)
      refine HJ.out.mono ?_
      rintro e w2 ⟨rfl, hb2⟩
      have HB4 := Lib.hid hb2
      clear hb2 HJ
      go_wp2_with (fail)
      refine (HBA.out w2).mono ?_
      rintro e w3 ⟨rfl, hb3⟩
      have HB5 := Lib.hid (HB4.out.trans (hb3.mono HB4.out.size))
      clear hb3
      go_wp2
      try rw [Exit.noGoto_ret]
      go_ret2
      exact ⟨_, congrArg (fun z => Ending.returned (.tuple #[.slice Bu k cu, .string z])) HG.out.symm, HUR.out w3 HB5.out, HB1.out w3 (HBR.out.trans (HB5.out.mono HBR.out.size))⟩
    ·obtain rfl : k = rest.length := by omega
     have hall := HALL.out
     have ho := HO.out
     rw [List.take_length] at hall ho
     have h1 := behind_none HREST.out hall
     have HU : Hid (us = rest) := Lib.hid (HUS.out.trans h1.1)
     have HG : Hid (sg = ⟨#[]⟩) := Lib.hid (by rw [HSG.out, h1.2]; rfl)
     have HO4 := Lib.hid (Kd.R_lower ho HB.out.size)
     clear h1 ho hall HALL HO
     go_wp2
     try rw [Exit.noGoto_ret]
     go_ret2
     refine ⟨_, congrArg (fun z => Ending.returned (.tuple #[u2, .string z])) HG.out.symm, ?_, HB1.out _ HBR.out⟩
     rw [HU.out]
     exact HO4.out
  ·obtain ⟨ad, e, q0⟩ := Kd.at_string HC'.out 0 (by omega) (by simp)
   subst e
   have hx0 : rdOf ByteArray.empty (x :: r) 0 = x := rfl
   rw [hx0] at q0
   have q0' : w1.cell? ad = some (.string x) := q0
   clear q0
   have hpf := flip (Tryz.strings_HasPrefix x ⟨#[35]⟩ w1)
   rw [hasPrefix_hash, hx] at hpf
   obtain ⟨A2, hcut, hcr, hcc2⟩ := print_drop_of (P := Tryz.prog) Value.string ByteArray.empty 28 9 .i64 Tryz.underlying28 hi hsz (some ad) c' (x :: r) 1 (by omega) (by simp only [List.length_cons]; omega) hc'
   simp only [Int.toNat_one, List.drop_one, List.tail_cons] at hcut hcr hcc2
   have HC2 := Lib.hid (Kd.C_of_reads (h1 := fun _ => rfl) (hcr w1 (Kd.reads_of_C HC'.out)))
   have HRH2 : Hid (restH L = r.dropWhile hashB) := Lib.hid (by rw [HRH.out, List.dropWhile_cons_of_pos hx])
   have HSZ2 : Hid ((flatB r).size ≤ s.size) := Lib.hid (by
    have := HSZ.out
    have h2 := flat_app [x] r
    simp only [List.singleton_append] at h2
    omega)
   have hl1 : (x :: r).length = r.length + 1 := rfl
   rw [hl1] at hcut
   clear hcr hx0 hx HRH HC' HSZ
   go_wp2_with (fail)
   refine hpf.mono ?_
   rintro e w2 ⟨rfl, rfl⟩
   go_wp2
   go_round
   case rel => exact ⟨A2, r, c' - 1, by simp, hcc2, by simp at hle; omega, HC2, HRH2, HSZ2⟩
   case measure => simp [Rad.lenOfV]
end Go.Proofs.YtcbmjmphicfgpaaGreatDoor.Tal
end

section
set_option linter.unusedVariables false
set_option linter.unusedSimpArgs false
namespace Go.Proofs.YtcbmjmphicfgpaaGreatDoor.Tal
open Go.RowKit Go.Shelf Go.Proofs.YtcbmjmphicfgpaaGreatDoorW.PrintWords Go.Proofs.YtcbmjmphicfgpaaGreatDoorW.PrintLast Go.Proofs.YtcbmjmphicfgpaaGreatDoorW.PrintMore Go.Proofs.YtcbmjmphicfgpaaGreatDoor.PT

theorem behind_size (s : ByteArray) : (flatB (behindB (Spl.linesR s))).size ≤ s.size := by
 have h1 := lines_sum s
 obtain ⟨k, hk⟩ := rest_drop (Spl.linesR s)
 have h2 := flat_drop (Spl.linesR s) k
 unfold behindB
 rw [hk]
 have h3 := List.takeWhile_append_dropWhile (p := fullB) (l := (Spl.linesR s).drop k)
 have h4 := flat_app (((Spl.linesR s).drop k).takeWhile fullB) (((Spl.linesR s).drop k).dropWhile fullB)
 rw [h3] at h4
 have h5 := flat_drop (((Spl.linesR s).drop k).dropWhile fullB) 1
 omega
theorem bare_size (y : ByteArray) : (bareB y).size ≤ y.size := by
 unfold bareB
 rw [Rad.strOfNums_size]
 exact Rad.bareN_length y y.size
theorem uris_len (s : ByteArray) (hs : s.size ≤ 1000000) : (urisB (Spl.linesR s)).length ≤ 1000001 := by
 have h1 := lines_len s
 obtain ⟨k, hk⟩ := rest_drop (Spl.linesR s)
 unfold urisB
 rw [hk]
 have h2 := (List.takeWhile_sublist (p := fullB) (l := (Spl.linesR s).drop k)).length_le
 have h3 : ((Spl.linesR s).drop k).length ≤ (Spl.linesR s).length := by simp
 omega
theorem talP_no1 {us : List ByteArray} {sg : ByteArray} (h : decB sg = none) : talP us sg = none := by unfold talP; rw [h]
theorem talP_no2 {us : List ByteArray} {sg : ByteArray} (h : rightU us = false) : talP us sg = none := by
 unfold talP
 rw [h]
 cases decB sg <;> rfl
theorem talP_no3 {us : List ByteArray} {sg : ByteArray} {r : List Int} (h : decB sg = some r) (h2 : keyB r = none) : talP us sg = none := by
 unfold talP
 rw [h]
 simp only
 rw [h2]
 simp
theorem talP_yes {us : List ByteArray} {sg : ByteArray} {r : List Int} {k : List Int × Int} (h : decB sg = some r) (h1 : rightU us = true) (h2 : keyB r = some k) : talP us sg = some (us, k.1, k.2) := by
 unfold talP
 rw [h, h1]
 simp only
 rw [h2]
 rfl
def TalPost (w : World) (o : Option (List ByteArray × List Int × Int)) (e : Ending) (w' : World) : Prop := ∃ V us c A l d E x, e = .returned (.tuple #[.agg #[.slice V (List.length us) c, .slice A (List.length l) d, .int .u32 E], .int .i64 x]) ∧ ((x = 2 ∧ o = none ∧ us = [] ∧ l = [] ∧ E = 0) ∨ (x = 0 ∧ o = some (us, l, E))) ∧ Kd.string.C w' V us.length us ∧ us.length ≤ c ∧ (Kd.int .u8).C w' A l.length l ∧ l.length ≤ d ∧ Below w.heap.size w w'
/-- Rows of one's own kind are no part of a block of other things. -/
theorem C_far {α : Type} {enc : α → Value} {h1 : ∀ x, (enc x).oneCell' = true} (d : α) {w7 WF : World} {g : Nat} {cs : Array Value} {t : TypeId} {A : Option Addr} {n : Nat} {xs : List α} (hg : w7.heap[g]? = some (.cells cs t (0, 0))) (hne : ∀ (i : Nat) x, cs[i]? ≠ some (enc x)) (hoth : ∀ k, k ≠ g → WF.heap[k]? = w7.heap[k]?) (h : (Kd.scalar enc h1).C w7 A n xs) : (Kd.scalar enc h1).C WF A n xs := by
 have hr := Kd.reads_of_C (d := d) h
 refine Kd.C_of_reads (d := d) ⟨hr.1, hr.2.1, fun hn => ?_⟩
 obtain ⟨ad, e, hc⟩ := hr.2.2 hn
 refine ⟨ad, e, fun j hj => ?_⟩
 have h0 := hc j hj
 by_cases hb : (ad.add j).block = g
 ·exfalso
  unfold World.cell? at h0
  rw [hb, hg] at h0
  simp only at h0
  split at h0
  ·cases h0
  ·exact hne _ _ h0
 ·rw [World.cell?_of_block (hoth _ hb)]
  exact h0
theorem ne_str (v0 v1 v2 : Value) (h0 : ∀ x, v0 ≠ .string x) (h1 : ∀ x, v1 ≠ .string x) (h2 : ∀ x, v2 ≠ .string x) : ∀ (i : Nat) (x : ByteArray), (#[v0, v1, v2] : Array Value)[i]? ≠ some (.string x) := by
 intro i x h
 match i, h with
 | 0, h => exact h0 x (by simpa using h)
 | 1, h => exact h1 x (by simpa using h)
 | 2, h => exact h2 x (by simpa using h)
 | i + 3, h => simp at h
theorem ne_u8 (v0 v1 v2 : Value) (h0 : ∀ x, v0 ≠ .int .u8 x) (h1 : ∀ x, v1 ≠ .int .u8 x) (h2 : ∀ x, v2 ≠ .int .u8 x) : ∀ (i : Nat) (x : Int), (#[v0, v1, v2] : Array Value)[i]? ≠ some (.int .u8 x) := by
 intro i x h
 match i, h with
 | 0, h => exact h0 x (by simpa using h)
 | 1, h => exact h1 x (by simpa using h)
 | 2, h => exact h2 x (by simpa using h)
 | i + 3, h => simp at h
/-- The result's block, at each step. -/
structure RB (w W : World) (v0 v1 v2 : Value) : Prop where
 h : W.heap[w.heap.size]? = some (.cells #[v0, v1, v2] 34 (0, 0))
 b : Below w.heap.size w W
theorem RB.step {w W W2 : World} {v0 v1 v2 : Value} (h : RB w W v0 v1 v2) (hB : Below W.heap.size W W2) : RB w W2 v0 v1 v2 :=
 ⟨(hB.block _ (Tlv.heap_lt h.h)).trans h.h, h.b.trans (hB.mono h.b.size)⟩
theorem RB.set {w W : World} {v0 v1 v2 : Value} (h : RB w W v0 v1 v2) (u0 u1 u2 : Value) : RB w (((W.setCell ⟨w.heap.size, 0, none⟩ u0).setCell ⟨w.heap.size, 1, none⟩ u1).setCell ⟨w.heap.size, 2, none⟩ u2) u0 u1 u2 :=
 ⟨heap_setCell_same _ _ 2 _ _ _ (heap_setCell_same _ _ 1 _ _ _ (heap_setCell_same _ _ 0 _ _ _ h.h)), ((h.b.setCell (p := ⟨w.heap.size, 0, none⟩) (Nat.le_refl _) _).setCell (p := ⟨w.heap.size, 1, none⟩) (Nat.le_refl _) _).setCell (p := ⟨w.heap.size, 2, none⟩) (Nat.le_refl _) _⟩

set_option maxHeartbeats 4000000 in
set_option maxRecDepth 100000 in
theorem talread_walk (s : ByteArray) (w : World) (hs : s.size ≤ 1000000) :
 Calls Tryz.prog 17 #[.string s] w (TalPost w (readB s)) := by
 have hal : Below w.heap.size w (w.alloc (.cells #[.slice none 0 0, .slice none 0 0, .int .u32 0] 34)) := (Below.refl _ _).alloc (Nat.le_refl _) _
 have hrb : RB w (w.alloc (.cells #[.slice none 0 0, .slice none 0 0, .int .u32 0] 34)) (.slice none 0 0) (.slice none 0 0) (.int .u32 0) := ⟨heap_alloc_new w _, hal⟩
 have hpw := parts_walk s (w.alloc (.cells #[.slice none 0 0, .slice none 0 0, .int .u32 0] 34)) hs
 generalize hpost : TalPost w (readB s) = PP
 have HPP := Lib.hid hpost
 unfold PartsPost at hpw
 have hus := uris_size s
 have hsg : (flatB (behindB (Spl.linesR s))).size ≤ s.size := behind_size s
 have hrd : readB s = talP (urisB (Spl.linesR s)) (signsB (Spl.linesR s)) := rfl
 rw [hrd] at HPP
 have hsgz : (signsB (Spl.linesR s)).size ≤ 1000000 := by have := bare_size (flatB (behindB (Spl.linesR s))); unfold signsB; omega
 have hdt := dec_told (signsB (Spl.linesR s)) (by omega)
 have hul : (urisB (Spl.linesR s)).length ≤ 1000001 := uris_len s hs
 generalize signsB (Spl.linesR s) = sg at hpw HPP hdt hsgz
 generalize urisB (Spl.linesR s) = us at hpw HPP hus hul
 obtain ⟨r, ok, hdf, hdc⟩ := hdt
 have HRU := Lib.hid (fun (V : Option Addr) (c : Nat) (w1 : World) h1 h2 => tal_right.calls (us.length + 1) V c us (rightU us) w1 h1 h2 (right_f us hul (fun x hx => by have := hus x hx; omega)))
 have HDE := Lib.hid (fun (w1 : World) => radix_Decode.calls (sg.size + 1) sg r ok w1 hdf)
 have HPW := Lib.hid hpw
 have HRB := Lib.hid hrb
 have HDC := Lib.hid hdc
 have HAL := Lib.hid hal
 clear hpw hrb hal hpost hus hdf hdc hrd hsg
 go_enter Tryz.func17, Tryz.ntmps17
 go_wp2_with (fail)
 refine HPW.out.mono ?_
 rintro e w1 ⟨v, rfl, ho, hb⟩
 obtain ⟨V, c, rfl⟩ := Kd.R_slice ho
 have hr1 := Kd.R_reads' ho
 have HRB1 := Lib.hid (HRB.out.step hb)
 have HC := Lib.hid hr1.2.2
 have hc := hr1.2.1
 clear ho hr1 hb HPW HRB HAL
 go_wp2_with (fail)
 refine (HDE.out w1).mono ?_
 rintro e w2 ⟨v2, rfl, ho, hb⟩
 have HRB2 := Lib.hid (HRB1.out.step hb)
 have HC2 := Lib.hid (Kd.C_below HC.out hb)
 have HR2 := Lib.hid ho
 clear ho hb HRB1 HC HDE
 have HPP2 : Hid (∀ e w', TalPost w (talP us sg) e w' → PP e w') := Lib.hid (fun e w' h => by rw [← HPP.out]; exact h)
 clear HPP
 have hok : (ok = false ∧ decB sg = none) ∨ (ok = true ∧ decB sg = some r ∧ (∀ x, x ∈ r → 0 ≤ x ∧ x < 256) ∧ Rad.enc r = bytesOf sg) := HDC.out.symm
 clear HDC
 rcases hok with ⟨rfl, hdn⟩ | ⟨rfl, hds, hrv, hre⟩
 ·have HN := Lib.hid (talP_no1 (us := us) hdn)
  have z0 := Lib.cell_of_heap HRB2.out.h 0
  have z1 := Lib.cell_of_heap HRB2.out.h 1
  have z2 := Lib.cell_of_heap HRB2.out.h 2
  have f0 := Lib.frozen_of_heap HRB2.out.h 0
  have f1 := Lib.frozen_of_heap HRB2.out.h 1
  have f2 := Lib.frozen_of_heap HRB2.out.h 2
  have HZ := Lib.hid (HRB2.out.set (.slice none 0 0) (.slice none 0 0) (.int .u32 0))
  clear hdn
  go_wp2
  generalize ((w2.setCell ⟨w.heap.size, 0, none⟩ (.slice none 0 0)).setCell ⟨w.heap.size, 1, none⟩ (.slice none 0 0)).setCell ⟨w.heap.size, 2, none⟩ (.int .u32 0) = WF at HZ ⊢
  have y0 := Lib.cell_of_heap HZ.out.h 0
  have y1 := Lib.cell_of_heap HZ.out.h 1
  have y2 := Lib.cell_of_heap HZ.out.h 2
  refine bodyPost_ret (v := .tuple #[.agg #[.slice none 0 0, .slice none 0 0, .int .u32 0], .int .i64 2]) (by simp at y0 y1 y2; simp [results, Tryz.results17, go_sem, y0, y1, y2]) rfl ?_
  exact HPP2.out _ _ ⟨none, [], 0, none, [], 0, 0, 2, rfl, .inl ⟨rfl, HN.out, rfl, rfl, rfl⟩, Tlv.C_nil _ _ _, Nat.le_refl _, Tlv.C_nil _ _ _, Nat.le_refl _, HZ.out.b⟩
 ·have hrl := enc_size r sg hre
  have HDS := Lib.hid hds
  obtain ⟨rb, hrb⟩ : ∃ rb, rightU us = rb := ⟨_, rfl⟩
  have HU := Lib.hid (HRU.out V c w2 HC2.out hc)
  rw [hrb] at HU
  obtain ⟨V2, c2, rfl⟩ := Kd.R_slice HR2.out
  have HRR := Lib.hid (Kd.R_reads' HR2.out).2.2
  have hc2 := (Kd.R_reads' HR2.out).2.1
  have HRV := Lib.hid hrv
  clear hds hre HRU HR2 hrv
  cases rb with
  | false =>
   have HN := Lib.hid (talP_no2 (sg := sg) hrb)
   clear hrb
   go_wp2_with (fail)
   refine HU.out.mono ?_
   rintro e w3 ⟨rfl, hb3⟩
   have HRB3 := Lib.hid (HRB2.out.step hb3)
   clear hb3 HU
   have z0 := Lib.cell_of_heap HRB3.out.h 0
   have z1 := Lib.cell_of_heap HRB3.out.h 1
   have z2 := Lib.cell_of_heap HRB3.out.h 2
   have f0 := Lib.frozen_of_heap HRB3.out.h 0
   have f1 := Lib.frozen_of_heap HRB3.out.h 1
   have f2 := Lib.frozen_of_heap HRB3.out.h 2
   have HZ := Lib.hid (HRB3.out.set (.slice none 0 0) (.slice none 0 0) (.int .u32 0))
   go_wp2
   generalize ((w3.setCell ⟨w.heap.size, 0, none⟩ (.slice none 0 0)).setCell ⟨w.heap.size, 1, none⟩ (.slice none 0 0)).setCell ⟨w.heap.size, 2, none⟩ (.int .u32 0) = WF at HZ ⊢
   have y0 := Lib.cell_of_heap HZ.out.h 0
   have y1 := Lib.cell_of_heap HZ.out.h 1
   have y2 := Lib.cell_of_heap HZ.out.h 2
   refine bodyPost_ret (v := .tuple #[.agg #[.slice none 0 0, .slice none 0 0, .int .u32 0], .int .i64 2]) (by simp at y0 y1 y2; simp [results, Tryz.results17, go_sem, y0, y1, y2]) rfl ?_
   exact HPP2.out _ _ ⟨none, [], 0, none, [], 0, 0, 2, rfl, .inl ⟨rfl, HN.out, rfl, rfl, rfl⟩, Tlv.C_nil _ _ _, Nat.le_refl _, Tlv.C_nil _ _ _, Nat.le_refl _, HZ.out.b⟩
  | true =>
   have HRT := Lib.hid hrb
   clear hrb
   go_wp2_with (fail)
   refine HU.out.mono ?_
   rintro e w3 ⟨rfl, hb3⟩
   have HRB3 := Lib.hid (HRB2.out.step hb3)
   have HC3 := Lib.hid (Kd.C_below HC2.out hb3)
   have HTR := Lib.hid (Tlv.read_walk V2 c2 r w3 (Tlv.reads_of_C (Kd.C_below HRR.out hb3)) hc2 HRV.out (by omega))
   clear hb3 HU
   go_wp2_with (fail)
   refine HTR.out.mono ?_
   intro e w4 hp
   unfold Tlv.ReadPost at hp
   have hkb : keyB r = match Tlv.readP r with | .err _ => none | .ok n => Tlv.keyP n := rfl
   cases hq : Tlv.readP r with
   | err x =>
    rw [hq] at hp hkb
    have hx := Tlv.readP_errs hq
    have HN := Lib.hid (talP_no3 (us := us) HDS.out hkb)
    obtain ⟨rfl, hb4⟩ := hp
    have hal4 : Below w4.heap.size w4 (w4.alloc (.cells #[.int .i64 0, .slice none 0 0, .slice none 0 0] 51)) := (Below.refl _ _).alloc (Nat.le_refl _) _
    have HRB4 := Lib.hid ((HRB3.out.step hb4).step hal4)
    have e1 : (x == (0 : Int)) = false := beq_eq_false_iff_ne.2 hx
    have e2 := eq_false hx
    have e3 : (x != (0 : Int)) = true := bne_iff_ne.2 hx
    clear hb4 hal4 hkb hq hx HTR
    have z0 := Lib.cell_of_heap HRB4.out.h 0
    have z1 := Lib.cell_of_heap HRB4.out.h 1
    have z2 := Lib.cell_of_heap HRB4.out.h 2
    have f0 := Lib.frozen_of_heap HRB4.out.h 0
    have f1 := Lib.frozen_of_heap HRB4.out.h 1
    have f2 := Lib.frozen_of_heap HRB4.out.h 2
    have HZ := Lib.hid (HRB4.out.set (.slice none 0 0) (.slice none 0 0) (.int .u32 0))
    go_wp2
    generalize (((w4.alloc (.cells #[.int .i64 0, .slice none 0 0, .slice none 0 0] 51)).setCell ⟨w.heap.size, 0, none⟩ (.slice none 0 0)).setCell ⟨w.heap.size, 1, none⟩ (.slice none 0 0)).setCell ⟨w.heap.size, 2, none⟩ (.int .u32 0) = WF at HZ ⊢
    have y0 := Lib.cell_of_heap HZ.out.h 0
    have y1 := Lib.cell_of_heap HZ.out.h 1
    have y2 := Lib.cell_of_heap HZ.out.h 2
    refine bodyPost_ret (v := .tuple #[.agg #[.slice none 0 0, .slice none 0 0, .int .u32 0], .int .i64 2]) (by simp at y0 y1 y2; simp [results, Tryz.results17, go_sem, y0, y1, y2]) rfl ?_
    exact HPP2.out _ _ ⟨none, [], 0, none, [], 0, 0, 2, rfl, .inl ⟨rfl, HN.out, rfl, rfl, rfl⟩, Tlv.C_nil _ _ _, Nat.le_refl _, Tlv.C_nil _ _ _, Nat.le_refl _, HZ.out.b⟩
   | ok n =>
    rw [hq] at hp hkb
    obtain ⟨q1, q2, q3, q4, q5⟩ := Tlv.readP_ok HRV.out hq
    have hnb : Tlv.byT n := Tlv.by_enc n q2 (fun v hv => HRV.out v (by rw [q1]; exact hv))
    have hnw := Tlv.wT_size n q2
    obtain ⟨v5, v6, rfl, hv5, hv6, hb4⟩ := hp
    have hnr := Tlv.NodeR.of (n := n) hv5 hv6
    obtain ⟨X1, x1, X2, x2, rfl, rfl, hnx⟩ := hnr.form
    have hal4 : Below w4.heap.size w4 (w4.alloc (.cells #[.int .i64 n.f0, .slice X1 n.f1.length x1, .slice X2 n.f2.length x2] 51)) := (Below.refl _ _).alloc (Nat.le_refl _) _
    have hg4 : (w4.alloc (.cells #[.int .i64 n.f0, .slice X1 n.f1.length x1, .slice X2 n.f2.length x2] 51)).heap[w4.heap.size]? = some (.cells #[.int .i64 n.f0, .slice X1 n.f1.length x1, .slice X2 n.f2.length x2] 51 (0, 0)) := heap_alloc_new w4 _
    have HRB4 := Lib.hid ((HRB3.out.step hb4).step hal4)
    have HC4 := Lib.hid (Kd.C_below (Kd.C_below HC3.out hb4) hal4)
    have n0 := Lib.cell_of_heap hg4 0
    have n1 := Lib.cell_of_heap hg4 1
    have n2 := Lib.cell_of_heap hg4 2
    have HKR := Lib.hid (Tlv.readK_walk n hnb (by omega) X1 x1 X2 x2 _ (hnx.below hal4))
    have HKB := Lib.hid hkb
    clear hb4 hal4 hg4 hkb hq q1 q2 q3 q4 q5 hnb hnw hv5 hv6 hnr hnx HTR
    go_wp2_with (fail)
    refine HKR.out.mono ?_
    intro e w6 hp
    unfold Tlv.KeyPost at hp
    obtain ⟨A, l, d, E, x, rfl, hcase, hA, hd, hb6⟩ := hp
    have hal6 : Below w6.heap.size w6 (w6.alloc (.cells #[.slice A l.length d, .int .u32 E] 32)) := (Below.refl _ _).alloc (Nat.le_refl _) _
    have hg6 : (w6.alloc (.cells #[.slice A l.length d, .int .u32 E] 32)).heap[w6.heap.size]? = some (.cells #[.slice A l.length d, .int .u32 E] 32 (0, 0)) := heap_alloc_new w6 _
    have HRB6 := Lib.hid ((HRB4.out.step hb6).step hal6)
    have HC6 := Lib.hid (Kd.C_below (Kd.C_below HC4.out hb6) hal6)
    have HA6 := Lib.hid (And.intro (Kd.C_below hA hal6) hd)
    have k0 := Lib.cell_of_heap hg6 0
    have k1 := Lib.cell_of_heap hg6 1
    have HSZ := Lib.hid (show w.heap.size < w6.heap.size by have := (HRB4.out.step hb6).h; exact Tlv.heap_lt this)
    clear hb6 hal6 hg6 hA hd HKR n0 n1 n2
    rcases hcase with ⟨rfl, hk, -, -⟩ | ⟨rfl, hk⟩
    ·have HN := Lib.hid (talP_no3 (us := us) HDS.out (HKB.out.trans hk))
     clear hk
     have z0 := Lib.cell_of_heap HRB6.out.h 0
     have z1 := Lib.cell_of_heap HRB6.out.h 1
     have z2 := Lib.cell_of_heap HRB6.out.h 2
     have f0 := Lib.frozen_of_heap HRB6.out.h 0
     have f1 := Lib.frozen_of_heap HRB6.out.h 1
     have f2 := Lib.frozen_of_heap HRB6.out.h 2
     have HZ := Lib.hid (HRB6.out.set (.slice none 0 0) (.slice none 0 0) (.int .u32 0))
     go_wp2
     generalize (((w6.alloc (.cells #[.slice A l.length d, .int .u32 E] 32)).setCell ⟨w.heap.size, 0, none⟩ (.slice none 0 0)).setCell ⟨w.heap.size, 1, none⟩ (.slice none 0 0)).setCell ⟨w.heap.size, 2, none⟩ (.int .u32 0) = WF at HZ ⊢
     have y0 := Lib.cell_of_heap HZ.out.h 0
     have y1 := Lib.cell_of_heap HZ.out.h 1
     have y2 := Lib.cell_of_heap HZ.out.h 2
     refine bodyPost_ret (v := .tuple #[.agg #[.slice none 0 0, .slice none 0 0, .int .u32 0], .int .i64 2]) (by simp at y0 y1 y2; simp [results, Tryz.results17, go_sem, y0, y1, y2]) rfl ?_
     exact HPP2.out _ _ ⟨none, [], 0, none, [], 0, 0, 2, rfl, .inl ⟨rfl, HN.out, rfl, rfl, rfl⟩, Tlv.C_nil _ _ _, Nat.le_refl _, Tlv.C_nil _ _ _, Nat.le_refl _, HZ.out.b⟩
    ·have HN := Lib.hid (talP_yes (k := (l, E)) HDS.out HRT.out (HKB.out.trans hk))
     clear hk
     have z0 := Lib.cell_of_heap HRB6.out.h 0
     have z1 := Lib.cell_of_heap HRB6.out.h 1
     have z2 := Lib.cell_of_heap HRB6.out.h 2
     have f0 := Lib.frozen_of_heap HRB6.out.h 0
     have f1 := Lib.frozen_of_heap HRB6.out.h 1
     have f2 := Lib.frozen_of_heap HRB6.out.h 2
     have HZ := Lib.hid (HRB6.out.set (.slice V us.length c) (.slice A l.length d) (.int .u32 E))
     go_wp2
     have HOTH : Hid (∀ k, k ≠ w.heap.size → ((((w6.alloc (.cells #[.slice A l.length d, .int .u32 E] 32)).setCell ⟨w.heap.size, 0, none⟩ (.slice V us.length c)).setCell ⟨w.heap.size, 1, none⟩ (.slice A l.length d)).setCell ⟨w.heap.size, 2, none⟩ (.int .u32 E)).heap[k]? = (w6.alloc (.cells #[.slice A l.length d, .int .u32 E] 32)).heap[k]?) := Lib.hid (fun k hk => (heap_setCell_other _ _ _ _ hk).trans ((heap_setCell_other _ _ _ _ hk).trans (heap_setCell_other _ _ _ _ hk)))
     generalize (((w6.alloc (.cells #[.slice A l.length d, .int .u32 E] 32)).setCell ⟨w.heap.size, 0, none⟩ (.slice V us.length c)).setCell ⟨w.heap.size, 1, none⟩ (.slice A l.length d)).setCell ⟨w.heap.size, 2, none⟩ (.int .u32 E) = WF at HZ HOTH ⊢
     have y0 := Lib.cell_of_heap HZ.out.h 0
     have y1 := Lib.cell_of_heap HZ.out.h 1
     have y2 := Lib.cell_of_heap HZ.out.h 2
     refine bodyPost_ret (v := .tuple #[.agg #[.slice V us.length c, .slice A l.length d, .int .u32 E], .int .i64 0]) (by simp at y0 y1 y2; simp [results, Tryz.results17, go_sem, y0, y1, y2]) rfl ?_
     exact HPP2.out _ _ ⟨V, us, c, A, l, d, E, 0, rfl, .inr ⟨rfl, HN.out⟩, C_far ByteArray.empty HRB6.out.h (ne_str _ _ _ (by simp) (by simp) (by simp)) HOTH.out HC6.out, hc, C_far (0 : Int) HRB6.out.h (ne_u8 _ _ _ (by simp) (by simp) (by simp)) HOTH.out HA6.out.1, HA6.out.2, HZ.out.b⟩
end Go.Proofs.YtcbmjmphicfgpaaGreatDoor.Tal
end

section
set_option linter.unusedVariables false
set_option linter.unusedSimpArgs false
namespace Go.Proofs.YtcbmjmphicfgpaaGreatDoor.Tal
open Go.RowKit Go.Proofs.YtcbmjmphicfgpaaGreatDoorW.PrintWords Go.Proofs.YtcbmjmphicfgpaaGreatDoorW.PrintLast Go.Proofs.YtcbmjmphicfgpaaGreatDoorW.PrintMore Go.Proofs.YtcbmjmphicfgpaaGreatDoor.PT

def plainC (x : Int) : Prop := ¬ (x = 9 ∨ x = 10 ∨ x = 13 ∨ x = 32)
theorem sg_set (n : Int) (h : 0 ≤ n) (h1 : n < 64) : plainC (Rad.sg n) := by
 have hall : ∀ k : Fin 64, ¬ (Rad.sg (k.val : Int) = 9 ∨ Rad.sg (k.val : Int) = 10 ∨ Rad.sg (k.val : Int) = 13 ∨ Rad.sg (k.val : Int) = 32) := by decide +kernel
 have e : ((n.toNat : Nat) : Int) = n := by omega
 have := hall ⟨n.toNat, by omega⟩
 simp only [e] at this
 exact this
theorem qd_set (Q N : Int) (hQ : 0 ≤ Q) (hQ1 : Q < 16777216) : ∀ x ∈ Rad.qd Q N, plainC x := by
 intro x hx
 unfold Rad.qd at hx
 simp only [List.mem_cons, List.not_mem_nil, or_false] at hx
 have h61 : plainC 61 := by unfold plainC; omega
 rcases hx with rfl | rfl | rfl | rfl
 ·exact sg_set _ (by omega) (by omega)
 ·exact sg_set _ (by omega) (by omega)
 ·split
  ·exact h61
  ·exact sg_set _ (by omega) (by omega)
 ·split
  ·exact h61
  ·exact sg_set _ (by omega) (by omega)
theorem enc_set (l : List Int) (h : ∀ x ∈ l, 0 ≤ x ∧ x < 256) : ∀ x ∈ Rad.enc l, plainC x := by
 induction hn : l.length using Nat.strongRecOn generalizing l with
 | ind n ih =>
  by_cases h0 : l = []
  ·subst h0; intro x hx; simp [Rad.enc] at hx
  ·intro x hx
   rw [Rad.enc_round l h0] at hx
   have r0 := Rad.rd_range h 0
   have r1 := Rad.rd_range h 1
   have r2 := Rad.rd_range h 2
   rcases List.mem_append.1 hx with hx | hx
   ·exact qd_set _ _ (by omega) (by omega) x hx
   ·have hpos := List.length_pos_iff.2 h0
    exact ih (l.drop 3).length (by simp; omega) (l.drop 3) (fun y hy => h y (List.mem_of_mem_drop hy)) rfl x hx
theorem bareN_plain (s : ByteArray) (h : ∀ j, j < s.size → plainC (bt s (j : Int))) : ∀ j, j ≤ s.size → Rad.bareN s j = (bytesOf s).take j
 | 0, _ => by simp [Rad.bareN]
 | j + 1, hj => by
  have hp := h j (by omega)
  have hb : Rad.blank (bt s (j : Int)) = false := by
   unfold Rad.blank
   unfold plainC at hp
   simp only [Bool.or_eq_false_iff, beq_eq_false_iff_ne]
   omega
  have hl : j < (bytesOf s).length := by rw [bytesOf_length]; omega
  rw [Rad.bareN_no hb, bareN_plain s h j (by omega), List.take_succ_eq_append_getElem hl]
  congr 2
  rw [← rd_bytesOf]
  simp [rd, List.getD_eq_getElem?_getD, List.getElem?_eq_getElem hl]
theorem bare_plain (s : ByteArray) (h : ∀ j, j < s.size → plainC (bt s (j : Int))) : bareB s = s := by
 unfold bareB
 rw [bareN_plain s h s.size (Nat.le_refl _), List.take_of_length_le (by rw [bytesOf_length]; omega), Rad.strOfNums_bytesOf]
theorem signs_plain (l : List Int) (h : ∀ x ∈ l, 0 ≤ x ∧ x < 256) : ∀ j, j < (strOfNums (Rad.enc l)).size → plainC (bt (strOfNums (Rad.enc l)) (j : Int)) := by
 intro j hj
 rw [Rad.bt_str _ (Rad.enc_range l)]
 rw [Rad.strOfNums_size] at hj
 have e : rd (Rad.enc l) (j : Int) = (Rad.enc l)[j] := by simp [rd, List.getD_eq_getElem?_getD, List.getElem?_eq_getElem hj]
 rw [e]
 exact enc_set l h _ (List.getElem_mem hj)
theorem signs_bytes (l : List Int) (h : ∀ x ∈ l, 0 ≤ x ∧ x < 256) : ∀ b, b ∈ (strOfNums (Rad.enc l)).data.toList → b ≠ 10 ∧ b ≠ 13 := by
 intro b hb
 obtain ⟨j, hj, rfl⟩ := List.mem_iff_getElem.1 hb
 have hp := signs_plain l h j (by rw [← size_len]; exact hj)
 rw [bt_list _ j (by rw [← size_len]; exact hj)] at hp
 unfold plainC at hp
 constructor
 ·intro e; rw [e] at hp; exact hp (by decide)
 ·intro e; rw [e] at hp; exact hp (by decide)
/-- What a key that may be, with places that may be, is read as. -/
theorem read_lines (us : List ByteArray) (l : List Int) (E : Int) (hl : l.length ≤ 140) (hv : ∀ v ∈ l, 0 ≤ v ∧ v < 256) (h0 : 0 ≤ E) (h1 : E < 4294967296) (hk : Tlv.rightK l E = true) (hu : rightU us = true) (s : ByteArray)
 (hs : partsL ((Spl.linesR s).map (·.data.toList)) = partsL (linesK us l E)) : readB s = some (us, l, E) := by
 obtain ⟨hn, hb, h5, _⟩ := signsK_size l E hl hv h0 h1
 obtain ⟨hu8, hu1, humem⟩ := rightU_mem hu
 have hp : partsL (linesK us l E) = (us.map (·.data.toList), chunksL (signsK l E).data.toList) := by
  unfold linesK
  refine parts_text _ _ (fun x hx => ?_) (fun h => ?_)
  ·obtain ⟨y, hy, rfl⟩ := List.mem_map.1 hx
   exact (humem y hy).1
  ·have := congrArg List.length h
   simp at this
   rw [this] at hu1
   simp at hu1
 have hd := parts_data (Spl.linesR s)
 rw [hs, hp] at hd
 have e1 : urisB (Spl.linesR s) = us := LinQ.map_data_inj hd.1
 have e2 : flatB (behindB (Spl.linesR s)) = signsK l E := by
  apply WideShapes.bytes_inj
  rw [flatB_data, hd.2, chunks_flat]
 have e3 : signsB (Spl.linesR s) = signsK l E := by
  unfold signsB
  rw [e2]
  exact bare_plain _ (signs_plain _ hb)
 unfold readB
 rw [e1, e3]
 refine talP_yes (k := (l, E)) (dec_enc _ hb (by omega)) hu ?_
 unfold keyB
 rw [Tlv.readP_write hn]
 exact Tlv.key_back hl hv h0 h1 hk
theorem lines_clear (us : List ByteArray) (l : List Int) (E : Int) (hl : l.length ≤ 140) (hv : ∀ v ∈ l, 0 ≤ v ∧ v < 256) (h0 : 0 ≤ E) (h1 : E < 4294967296) (hu : rightU us = true) : ∀ x, x ∈ linesK us l E → ∀ b, b ∈ x → b ≠ 10 ∧ b ≠ 13 := by
 obtain ⟨hn, hb, h5, _⟩ := signsK_size l E hl hv h0 h1
 intro x hx b hbx
 unfold linesK at hx
 rcases List.mem_append.1 hx with hx | hx
 ·obtain ⟨y, hy, rfl⟩ := List.mem_map.1 hx
  exact (uri_mem ((rightU_mem hu).2.2 y hy).1).1 b hbx
 ·rcases List.mem_cons.1 hx with rfl | hx
  ·cases hbx
  ·exact signs_bytes _ hb b (chunks_mem _ x hx b hbx)
theorem text_lines (us : List ByteArray) (l : List Int) (E : Int) (hl : l.length ≤ 140) (hv : ∀ v ∈ l, 0 ≤ v ∧ v < 256) (h0 : 0 ≤ E) (h1 : E < 4294967296) (hu : rightU us = true) : (Spl.linesR (textB us l E)).map (·.data.toList) = linesK us l E := by
 rw [Spl.linesR_data]
 exact Lin.lines_ended_short _ (lines_clear us l E hl hv h0 h1 hu)
theorem text_back (us : List ByteArray) (l : List Int) (E : Int) (hl : l.length ≤ 140) (hv : ∀ v ∈ l, 0 ≤ v ∧ v < 256) (h0 : 0 ≤ E) (h1 : E < 4294967296) (hk : Tlv.rightK l E = true) (hu : rightU us = true) : readB (textB us l E) = some (us, l, E) :=
 read_lines us l E hl hv h0 h1 hk hu _ (by rw [text_lines us l E hl hv h0 h1 hu])
theorem ended_size (e : List UInt8) : ∀ p : List (List UInt8), (Lin.ended e p).length = p.flatten.length + e.length * p.length
 | [] => by simp [Lin.ended]
 | x :: p => by
  rw [Lin.ended, List.length_append, List.length_append, ended_size e p, List.flatten_cons, List.length_append, List.length_cons, Nat.mul_add]
  omega
theorem chunks_len (l : List UInt8) : (chunksL l).length ≤ l.length + 1 := by
 induction hn : l.length using Nat.strongRecOn generalizing l with
 | ind n ih =>
  by_cases h : l.length ≤ 64
  ·rw [chunksL_short h]; simp
  ·rw [chunksL_long (by omega), List.length_cons]
   have := ih (l.drop 64).length (by simp; omega) (l.drop 64) rfl
   simp at this
   omega
theorem flat_le : ∀ us : List ByteArray, (∀ x ∈ us, x.size ≤ 200) → ((us.map (·.data.toList)).flatten).length ≤ 200 * us.length
 | [], _ => by simp
 | x :: us, h => by
  rw [List.map_cons, List.flatten_cons, List.length_append, List.length_cons, size_len]
  have := h x List.mem_cons_self
  have := flat_le us (fun y hy => h y (List.mem_cons_of_mem _ hy))
  omega
theorem linesK_size (us : List ByteArray) (l : List Int) (E : Int) (hl : l.length ≤ 140) (hv : ∀ v ∈ l, 0 ≤ v ∧ v < 256) (h0 : 0 ≤ E) (h1 : E < 4294967296) (hu : rightU us = true) : (linesK us l E).length ≤ 31000 ∧ (linesK us l E).flatten.length ≤ 32000 := by
 have h3 := (signsK_size l E hl hv h0 h1).2.2.2
 obtain ⟨hu8, _, hum⟩ := rightU_mem hu
 have h4 := flat_le us (fun x hx => (hum x hx).2)
 have h5 := chunks_len (signsK l E).data.toList
 rw [size_len] at h5
 unfold linesK
 constructor
 ·simp; omega
 ·rw [List.flatten_append, List.flatten_cons, List.nil_append, List.length_append, chunks_flat, size_len]; omega
theorem text_size (us : List ByteArray) (l : List Int) (E : Int) (hl : l.length ≤ 140) (hv : ∀ v ∈ l, 0 ≤ v ∧ v < 256) (h0 : 0 ≤ E) (h1 : E < 4294967296) (hu : rightU us = true) : (textB us l E).size ≤ 70000 := by
 have := linesK_size us l E hl hv h0 h1 hu
 have e : (textB us l E).size = (Lin.ended [10] (linesK us l E)).length := by rw [← size_len]; rfl
 have e1 : ([10] : List UInt8).length = 1 := rfl
 rw [e, ended_size, e1]
 omega
end Go.Proofs.YtcbmjmphicfgpaaGreatDoor.Tal
end

section
namespace Go.Proofs.YtcbmjmphicfgpaaGreatDoor.PT
open Go.RowKit Go.Proofs.YtcbmjmphicfgpaaGreatDoorW.PrintWords Go.Proofs.YtcbmjmphicfgpaaGreatDoorW.PrintLast Go.Proofs.YtcbmjmphicfgpaaGreatDoorW.PrintMore
attribute [local go_sem] max2_int min2_int max_two min_two max_three min_three max_four min_four   -- for this text's walks alone
set_option linter.unusedVariables false
set_option linter.unusedSimpArgs false

def stringslite_HasSuffix.f (a0 : ByteArray) (a1 : ByteArray) : Option (Bool) := if (a0.size : Int) ≥ (a1.size : Int) then (if 0 ≤ (wrap64 ((a0.size : Int) - (a1.size : Int))) then (if (wrap64 ((a0.size : Int) - (a1.size : Int))) ≤ (a0.size : Int) then (some ((a0.extract ((wrap64 ((a0.size : Int) - (a1.size : Int))) : Int).toNat a0.size).toList == a1.toList)) else (none)) else (none)) else (some false)
set_option maxHeartbeats 8000000 in
set_option maxRecDepth 100000 in
theorem stringslite_HasSuffix.calls (a0 : ByteArray) (a1 : ByteArray) (r : Bool) (w : World) (h : stringslite_HasSuffix.f a0 a1 = some r) :
 Calls Tryz.prog 56 #[.string a0, .string a1] w fun e w' => e = .returned (.bool r) ∧ Drawn0 w w' := by
 have H : (if (a0.size : Int) ≥ (a1.size : Int) then (if 0 ≤ (wrap64 ((a0.size : Int) - (a1.size : Int))) then (if (wrap64 ((a0.size : Int) - (a1.size : Int))) ≤ (a0.size : Int) then (some ((a0.extract ((wrap64 ((a0.size : Int) - (a1.size : Int))) : Int).toNat a0.size).toList == a1.toList)) else (none)) else (none)) else (some false)) = some r := h
 clear h
 by_cases c3 : (a0.size : Int) ≥ (a1.size : Int)
 ·rw [if_pos c3] at H
  have c3b0 : decide ((a1.size : Int) ≤ (a0.size : Int)) = true := decide_eq_true c3
  have c3b1 : decide (a1.size ≤ a0.size) = true := decide_eq_true (Int.ofNat_le.mp c3)
  clear c3
  obtain ⟨ji4, hji4⟩ : ∃ j_ : Int, (wrap64 ((a0.size : Int) - (a1.size : Int))) = j_ := ⟨_, rfl⟩
  replace H : (if 0 ≤ (ji4) then (if (ji4) ≤ (a0.size : Int) then (some ((a0.extract ((ji4) : Int).toNat a0.size).toList == a1.toList)) else (none)) else (none)) = some r := by first | (rw [hji4] at H; exact H) | (simp only [hji4] at H ⊢; exact H)
  have hji4w : (IntKind.i64.wrap ((a0.size : Int) - (a1.size : Int))) = ji4 := (i64_w _).trans hji4
  by_cases c5 : 0 ≤ (ji4)
  ·rw [if_pos c5] at H
   have c5b0 := eq_true c5
   have c5b1 : decide (0 ≤ (ji4)) = true := decide_eq_true c5
   clear c5
   by_cases c6 : (ji4) ≤ (a0.size : Int)
   ·rw [if_pos c6] at H
    have c6b0 := eq_true c6
    have c6b1 : decide ((ji4) ≤ (a0.size : Int)) = true := decide_eq_true c6
    clear c6
    obtain rfl := Option.some.inj H
    go_enter Tryz.func56, Tryz.ntmps56
    go_wp2
    go_ret
    exact ⟨by first | rfl | (simp; done) | (simp only [← hji4] <;> (first | rfl | simp)) | (simp [*]; done), by repeat (first | exact Drawn0.refl _ | apply Drawn0.step)⟩
   ·rw [if_neg c6] at H
    exact absurd H (by simp)
  ·rw [if_neg c5] at H
   exact absurd H (by simp)
 ·rw [if_neg c3] at H
  have c3b0 : decide ((a1.size : Int) ≤ (a0.size : Int)) = false := decide_eq_false c3
  have c3b1 : decide (a1.size ≤ a0.size) = false := decide_eq_false (fun h => c3 (Int.ofNat_le.mpr h))
  clear c3
  obtain rfl := Option.some.inj H
  go_enter Tryz.func56, Tryz.ntmps56
  go_wp2
  go_ret
  exact ⟨by first | rfl | (simp; done) | (simp [*]; done), by repeat (first | exact Drawn0.refl _ | apply Drawn0.step)⟩

end Go.Proofs.YtcbmjmphicfgpaaGreatDoor.PT
end

section
namespace Go.Proofs.YtcbmjmphicfgpaaGreatDoor.PT
open Go.RowKit Go.Proofs.YtcbmjmphicfgpaaGreatDoorW.PrintWords Go.Proofs.YtcbmjmphicfgpaaGreatDoorW.PrintLast Go.Proofs.YtcbmjmphicfgpaaGreatDoorW.PrintMore
attribute [local go_sem] max2_int min2_int max_two min_two max_three min_three max_four min_four   -- for this text's walks alone
set_option linter.unusedVariables false
set_option linter.unusedSimpArgs false

def strings_HasSuffix.f (a0 : ByteArray) (a1 : ByteArray) : Option (Bool) := (stringslite_HasSuffix.f a0 a1).bind fun t108 => (some t108)
set_option maxHeartbeats 8000000 in
set_option maxRecDepth 100000 in
theorem strings_HasSuffix.calls (a0 : ByteArray) (a1 : ByteArray) (r : Bool) (w : World) (h : strings_HasSuffix.f a0 a1 = some r) :
 Calls Tryz.prog 27 #[.string a0, .string a1] w fun e w' => e = .returned (.bool r) ∧ Drawn0 w w' := by
 have H : ((stringslite_HasSuffix.f a0 a1).bind fun t108 => (some t108)) = some r := h
 clear h
 replace H := Option.bind_eq_some_iff.mp H
 obtain ⟨t108, A30, H⟩ := H
 replace H : (some t108) = some r := H
 have A3 := Aside0.mk A30
 clear A30
 obtain rfl := Option.some.inj H
 go_enter Tryz.func27, Tryz.ntmps27
 go_wp2_with (first | ((with_reducible refine gate_callee (f := 56) rfl ?_); refine goesL_ (some 7) rfl rfl Tryz.func56 (by kernel_rfl) rfl #[.string a0, .string a1] rfl (by (try simp only [List.map_toArray, List.map_cons, List.map_nil]); first | done | rfl | (simp only [List.length_drop, List.length_take]; rfl)) ?_; (with_reducible refine (stringslite_HasSuffix.calls a0 a1 t108 _ A3.out).mono ?_); rintro e w' ⟨rfl, ⟨nd, rfl⟩⟩; refine ⟨_, rfl, ?_⟩))
 go_ret
 exact ⟨by first | rfl | (simp; done) | (simp [*]; done), by repeat (first | exact Drawn0.refl _ | apply Drawn0.step)⟩

end Go.Proofs.YtcbmjmphicfgpaaGreatDoor.PT
end

section
namespace Go.Proofs.YtcbmjmphicfgpaaGreatDoor.PT
open Go.RowKit Go.Proofs.YtcbmjmphicfgpaaGreatDoorW.PrintWords Go.Proofs.YtcbmjmphicfgpaaGreatDoorW.PrintLast Go.Proofs.YtcbmjmphicfgpaaGreatDoorW.PrintMore
attribute [local go_sem] max2_int min2_int max_two min_two max_three min_three max_four min_four   -- for this text's walks alone
set_option linter.unusedVariables false
set_option linter.unusedSimpArgs false

def tal_Dir.f (a0 : ByteArray) : Option (Bool) := (tal_Uri.f a0).bind fun t109 => (if t109 = true then ((strings_HasSuffix.f a0 (⟨#[47]⟩ : ByteArray)).bind fun t110 => (some t110)) else (some false))
set_option maxHeartbeats 8000000 in
set_option maxRecDepth 100000 in
theorem tal_Dir.calls (a0 : ByteArray) (r : Bool) (w : World) (h : tal_Dir.f a0 = some r) :
 Calls Tryz.prog 12 #[.string a0] w fun e w' => e = .returned (.bool r) ∧ Below w.heap.size w w' := by
 have HB := Aside0.mk (Below.refl w.heap.size w)
 have H : ((tal_Uri.f a0).bind fun t109 => (if t109 = true then ((strings_HasSuffix.f a0 (⟨#[47]⟩ : ByteArray)).bind fun t110 => (some t110)) else (some false))) = some r := h
 clear h
 replace H := Option.bind_eq_some_iff.mp H
 obtain ⟨t109, A20, H⟩ := H
 replace H : (if t109 = true then ((strings_HasSuffix.f a0 (⟨#[47]⟩ : ByteArray)).bind fun t110 => (some t110)) else (some false)) = some r := H
 have A2 := Aside0.mk A20
 clear A20
 by_cases c3 : t109 = true
 ·subst c3
  have H1 : ((strings_HasSuffix.f a0 (⟨#[47]⟩ : ByteArray)).bind fun t110 => (some t110)) = some r := by rw [if_pos rfl] at H; exact H
  clear H
  have H := H1
  clear H1
  replace H := Option.bind_eq_some_iff.mp H
  obtain ⟨t110, A40, H⟩ := H
  replace H : (some t110) = some r := H
  have A4 := Aside0.mk A40
  clear A40
  obtain rfl := Option.some.inj H
  go_enter Tryz.func12, Tryz.ntmps12
  go_wp2_with (first | ((with_reducible refine gate_callee (f := 10) rfl ?_); refine goesL_ (some 4) rfl rfl Tryz.func10 (by kernel_rfl) rfl #[.string a0] rfl (by (try simp only [List.map_toArray, List.map_cons, List.map_nil]); first | done | rfl | (simp only [List.length_drop, List.length_take]; rfl)) ?_; (with_reducible refine (tal_Uri.calls a0 true _ A2.out).mono ?_); rintro e w5 ⟨rfl, hb⟩; refine ⟨_, rfl, ?_⟩; have n0_ := Aside0.mk (below_step (by repeat (first | (with_reducible first | exact HB.out | apply below_alloc | apply pw_below_drewN | apply below_drew1) | exact HB.out)) hb); clear HB; have HB := n0_; clear n0_; (try clear hb); (try clear hb2); (try clear hk); (try clear hi)) | (go_at_call 27; (with_reducible refine (strings_HasSuffix.calls a0 (⟨#[47]⟩ : ByteArray) t110 _ A4.out).mono ?_); rintro e w' ⟨rfl, ⟨nd, rfl⟩⟩))
  go_ret
  exact ⟨by first | rfl | (simp [errW_none, errW_some] <;> rfl) | (simp [*, errW_none, errW_some] <;> rfl), by repeat (first | (with_reducible first | exact HB.out | apply below_alloc | apply pw_below_drewN | apply below_drew1) | exact HB.out)⟩
 ·replace c3 := Bool.eq_false_iff.mpr c3
  subst c3
  have H1 : (some false) = some r := by rw [if_neg (show ¬ (false = true) by decide)] at H; exact H
  clear H
  have H := H1
  clear H1
  obtain rfl := Option.some.inj H
  go_enter Tryz.func12, Tryz.ntmps12
  go_wp2_with (first | ((with_reducible refine gate_callee (f := 10) rfl ?_); refine goesL_ (some 4) rfl rfl Tryz.func10 (by kernel_rfl) rfl #[.string a0] rfl (by (try simp only [List.map_toArray, List.map_cons, List.map_nil]); first | done | rfl | (simp only [List.length_drop, List.length_take]; rfl)) ?_; (with_reducible refine (tal_Uri.calls a0 false _ A2.out).mono ?_); rintro e w6 ⟨rfl, hb⟩; refine ⟨_, rfl, ?_⟩; have n0_ := Aside0.mk (below_step (by repeat (first | (with_reducible first | exact HB.out | apply below_alloc | apply pw_below_drewN | apply below_drew1) | exact HB.out)) hb); clear HB; have HB := n0_; clear n0_; (try clear hb); (try clear hb2); (try clear hk); (try clear hi)))
  go_ret
  exact ⟨by first | rfl | (simp [errW_none, errW_some] <;> rfl) | (simp [*, errW_none, errW_some] <;> rfl), by repeat (first | (with_reducible first | exact HB.out | apply below_alloc | apply pw_below_drewN | apply below_drew1) | exact HB.out)⟩

end Go.Proofs.YtcbmjmphicfgpaaGreatDoor.PT
end

section
set_option linter.unusedVariables false
set_option linter.unusedSimpArgs false
namespace Go.Proofs.YtcbmjmphicfgpaaGreatDoor.Tal
open Go.RowKit Go.Shelf Go.Proofs.YtcbmjmphicfgpaaGreatDoorW.PrintWords Go.Proofs.YtcbmjmphicfgpaaGreatDoorW.PrintLast Go.Proofs.YtcbmjmphicfgpaaGreatDoorW.PrintMore Go.Proofs.YtcbmjmphicfgpaaGreatDoor.PT

def dirB (s : ByteArray) : Bool := dirL s.data.toList
def joinB (d x : ByteArray) : Bool := dirB d && nameB x && decide (d.size + x.size ≤ 200)
def joinR (d x : ByteArray) : ByteArray × Int := if joinB d x = true then (d ++ x, 0) else (⟨#[]⟩, 1)
theorem dir_size {d : ByteArray} (h : dirB d = true) : d.size ≤ 200 := by
 have := (dirL_iff.1 h).1
 rwa [size_len] at this
theorem name_size {d : ByteArray} (h : nameB d = true) : d.size ≤ 60 := by
 have := (nameL_mem h).2.1
 rwa [size_len] at this
theorem dir_f (s : ByteArray) (hs : s.size ≤ 9223372036854775807) : tal_Dir.f s = some (dirB s) := by
 unfold tal_Dir.f tal_Uri.f
 rw [if_pos hs, Option.bind_some]
 by_cases hu : uriB s = true
 ·have hd : dirB s = decide (s.data.toList.getLast? = some 47) := by
   unfold dirB dirL
   rw [show uriL s.data.toList = true from hu, Bool.true_and]
  rw [if_pos hu, hd]
  have hne := (uri_mem hu).2.1
  rcases nil_or_snoc s.data.toList with h | ⟨q, b, h⟩
  ·exact absurd h hne
  ·have hsz : s.size = q.length + 1 := by rw [← size_len, h]; simp
   unfold strings_HasSuffix.f stringslite_HasSuffix.f
   have hw : wrap64 ((s.size : Int) - ((⟨#[47]⟩ : ByteArray).size : Int)) = (q.length : Int) := by
    rw [show (⟨#[47]⟩ : ByteArray).size = 1 from rfl]
    unfold wrap64; omega
   have he : (s.extract (q.length : Int).toNat s.size).toList = [b] := by
    rw [toList_data, extract_data, h, Int.toNat_natCast, hsz]
    simp
   rw [if_pos (by rw [show (⟨#[47]⟩ : ByteArray).size = 1 from rfl]; omega), hw, if_pos (by omega), if_pos (by omega), he, Option.bind_some, Option.bind_some, h, List.getLast?_concat, toList_data]
   have : ([b] == (⟨#[47]⟩ : ByteArray).data.toList) = decide (some b = some (47 : UInt8)) := by
    rw [Bool.eq_iff_iff, beq_iff_eq, decide_eq_true_eq]
    simp
   rw [this]
 ·have hu' : uriB s = false := by simpa using hu
  rw [if_neg hu, show dirB s = false by unfold dirB dirL; rw [show uriL s.data.toList = false from hu']; rfl]
set_option maxHeartbeats 4000000 in
set_option maxRecDepth 100000 in
theorem join_walk (d x : ByteArray) (w : World) (hd : d.size ≤ 9223372036854775807) :
 Calls Tryz.prog 8 #[.string d, .string x] w fun e w' => e = .returned (.tuple #[.string (joinR d x).1, .int .i64 (joinR d x).2]) ∧ Below w.heap.size w w' := by
 have HD := Lib.hid (tal_Dir.calls d (dirB d) w (dir_f d hd))
 obtain ⟨n, hn⟩ := name_f x
 have hz1 := @dir_size d
 have hz2 := @name_size x
 have HN := Lib.hid (fun w1 => manifest_Name.calls n x (nameB x) w1 hn)
 have HJ := Lib.hid (show joinR d x = if (dirB d && nameB x && decide (d.size + x.size ≤ 200)) = true then (d ++ x, 0) else (⟨#[]⟩, 1) from rfl)
 generalize joinR d x = res at HJ ⊢
 generalize dirB d = b1 at HD HJ hz1
 generalize nameB x = b2 at HN HJ hz2
 clear hn
 cases b1 with
 | false =>
  have HR : Hid (res = (⟨#[]⟩, 1)) := Lib.hid (by rw [HJ.out]; rfl)
  clear HJ hz1 hz2
  go_enter Tryz.func8, Tryz.ntmps8
  go_wp2_with (fail)
  refine HD.out.mono ?_
  rintro e w1 ⟨rfl, hb⟩
  go_wp2
  go_ret2
  exact ⟨by rw [HR.out]; rfl, hb⟩
 | true =>
  have hzd := hz1 rfl
  clear hz1
  cases b2 with
  | false =>
   have HR : Hid (res = (⟨#[]⟩, 1)) := Lib.hid (by rw [HJ.out]; rfl)
   clear HJ hz2
   go_enter Tryz.func8, Tryz.ntmps8
   go_wp2_with (fail)
   refine HD.out.mono ?_
   rintro e w1 ⟨rfl, hb⟩
   have HB := Lib.hid hb
   clear hb
   go_wp2_with (fail)
   refine (HN.out w1).mono ?_
   rintro e w2 ⟨rfl, hb2⟩
   have HB2 := Lib.hid (HB.out.trans (hb2.below.mono HB.out.size))
   clear hb2
   go_wp2
   go_ret2
   exact ⟨by rw [HR.out]; rfl, HB2.out⟩
  | true =>
   have hzx := hz2 rfl
   clear hz2
   by_cases hle : d.size + x.size ≤ 200
   ·have HR : Hid (res = (d ++ x, 0)) := Lib.hid (by rw [HJ.out, decide_eq_true hle]; rfl)
    have d1 : decide ((200 : Int) < ((d.size : Int) + (x.size : Int))) = false := decide_eq_false (by omega)
    have d2 : decide (d.size + x.size ≤ 9223372036854775807) = true := decide_eq_true (by omega)
    clear HJ
    go_enter Tryz.func8, Tryz.ntmps8
    go_wp2_with (fail)
    refine HD.out.mono ?_
    rintro e w1 ⟨rfl, hb⟩
    have HB := Lib.hid hb
    clear hb
    go_wp2_with (fail)
    refine (HN.out w1).mono ?_
    rintro e w2 ⟨rfl, hb2⟩
    have HB2 := Lib.hid (HB.out.trans (hb2.below.mono HB.out.size))
    clear hb2
    go_wp2
    go_ret2
    exact ⟨by rw [HR.out]; rfl, HB2.out⟩
   ·have HR : Hid (res = (⟨#[]⟩, 1)) := Lib.hid (by rw [HJ.out, decide_eq_false hle]; rfl)
    have d1 : decide ((200 : Int) < ((d.size : Int) + (x.size : Int))) = true := decide_eq_true (by omega)
    clear HJ
    go_enter Tryz.func8, Tryz.ntmps8
    go_wp2_with (fail)
    refine HD.out.mono ?_
    rintro e w1 ⟨rfl, hb⟩
    have HB := Lib.hid hb
    clear hb
    go_wp2_with (fail)
    refine (HN.out w1).mono ?_
    rintro e w2 ⟨rfl, hb2⟩
    have HB2 := Lib.hid (HB.out.trans (hb2.below.mono HB.out.size))
    clear hb2
    go_wp2
    go_ret2
    exact ⟨by rw [HR.out]; rfl, HB2.out⟩
end Go.Proofs.YtcbmjmphicfgpaaGreatDoor.Tal
end

section
namespace Go.Proofs.YtcbmjmphicfgpaaGreatDoor.PT
open Go.RowKit Go.Proofs.YtcbmjmphicfgpaaGreatDoorW.PrintWords Go.Proofs.YtcbmjmphicfgpaaGreatDoorW.PrintLast Go.Proofs.YtcbmjmphicfgpaaGreatDoorW.PrintMore
attribute [local go_sem] max2_int min2_int max_two min_two max_three min_three max_four min_four   -- for this text's walks alone
set_option linter.unusedVariables false
set_option linter.unusedSimpArgs false

end Go.Proofs.YtcbmjmphicfgpaaGreatDoor.PT
end
