/- Merged by a program of this session (wip/tools/pack.py). -/
import Derived.Test.YtmbgjhkemlliaaaKSpkiSeals3
/- The machine side: functions as plain Lean functions, and that the calls come to what these say; written by a program of this session (wip/tools/inc.py over the kit's printer). -/
section
namespace Go.Proofs.Ytmbgjhkemlliaaa.PT
open Go.RowKit Go.Proofs.YtmbgjhkemlliaaaW.PrintWords Go.Proofs.YtmbgjhkemlliaaaW.PrintLast Go.Proofs.YtmbgjhkemlliaaaW.PrintMore
attribute [local go_sem] max2_int min2_int max_two min_two max_three min_three max_four min_four   -- for this text's walks alone
set_option linter.unusedVariables false
set_option linter.unusedSimpArgs false

/-! ### lanyardref04_element: function 44 -/
mutual
def lanyardref04_element.l0 : Nat → List Int → Int → Int → Int → Int → Int → Int → List (S25) → Option (Int × List Int × (List (S25)) × Int × Int)
 | 0, _, _, _, _, _, _, _, _ => none
 | k + 1, x0, x2, x3, x11, x12, x15, x233000, x233002 => if x15 < (wrap64 (x11 + x12)) then (if 0 ≤ (wrap64 (x11 + x12)) then (if (wrap64 (x11 + x12)) ≤ (x0.length : Int) then ((lanyardref04_element.f k (x0.take ((wrap64 (x11 + x12)) : Int).toNat) x15 (wrap64 (x11 + x12)) (wrap64 (x3 + 1))).bind fun bt242 => (if bt242.2.2.2.2 = 3 then (lanyardref04_element.j1 k x0 x2 x3 x11 x12 bt242.2.2.2.1 bt242.2.2.2.2 (decide ((wrap64 (x11 + x12)) ≤ x2)) x233000 x233002 bt242.1 bt242.2.1 bt242.2.2.1) else (lanyardref04_element.j1 k x0 x2 x3 x11 x12 bt242.2.2.2.1 bt242.2.2.2.2 false x233000 x233002 bt242.1 bt242.2.1 bt242.2.2.1))) else (none)) else (none)) else (some (x233000, ([] : List Int), x233002, wrap64 (x11 + x12), 0))
def lanyardref04_element.j1 : Nat → List Int → Int → Int → Int → Int → Int → Int → Bool → Int → List (S25) → Int → List Int → List (S25) → Option (Int × List Int × (List (S25)) × Int × Int)
 | 0, _, _, _, _, _, _, _, _, _, _, _, _, _ => none
 | k + 1, x0, x2, x3, x11, x12, x17, x18, x98, x233000, x233002, x252000, x252001, x252002 => if x98 = true then (if 2 = 0 then (if x233002.length < 2513169434916 then (lanyardref04_element.l0 k x0 x2 x3 x11 x12 x17 x233000 (x233002 ++ [(⟨x252000, x252001, x252002⟩ : S25)])) else (none)) else (some (0, ([] : List Int), ([] : List (S25)), 0, 2))) else (if x18 = 0 then (if x233002.length < 2513169434916 then (lanyardref04_element.l0 k x0 x2 x3 x11 x12 x17 x233000 (x233002 ++ [(⟨x252000, x252001, x252002⟩ : S25)])) else (none)) else (some (0, ([] : List Int), ([] : List (S25)), 0, x18)))
def lanyardref04_element.f : Nat → List Int → Int → Int → Int → Option (Int × List Int × (List (S25)) × Int × Int)
 | 0, _, _, _, _ => none
 | k + 1, l0, a1, a2, a3 => (lanyardref04_head.f k l0 a1 a2).bind fun bt228 => (if bt228.2.2 = 0 then (if (wrap64 (bt228.1 + bt228.2.1)) > a2 then (if a2 < (l0.length : Int) then (some (0, ([] : List Int), ([] : List (S25)), 0, 2)) else (some (0, ([] : List Int), ([] : List (S25)), 0, 3))) else (if a3 ≥ 32 then (some (0, ([] : List Int), ([] : List (S25)), 0, 4)) else (if 0 ≤ a1 then (if a1 < (l0.length : Int) then ((lanyardref04_within.f (wrap64 (rd l0 a1))).bind fun t233 => (if t233 = true then (lanyardref04_element.l0 k l0 a2 a3 bt228.1 bt228.2.1 bt228.1 (wrap64 (rd l0 a1)) ([] : List (S25))) else ((some (([] : List Int) : List Int)).bind fun y234 => (if 0 ≤ bt228.1 then (if bt228.1 ≤ (wrap64 (bt228.1 + bt228.2.1)) then (if (wrap64 (bt228.1 + bt228.2.1)) ≤ (l0.length : Int) then (if y234.length + ((l0.take ((wrap64 (bt228.1 + bt228.2.1)) : Int).toNat).drop (bt228.1 : Int).toNat).length < 140737488355328 then (some (wrap64 (rd l0 a1), (y234 ++ ((l0.take ((wrap64 (bt228.1 + bt228.2.1)) : Int).toNat).drop (bt228.1 : Int).toNat)), ([] : List (S25)), wrap64 (bt228.1 + bt228.2.1), 0)) else (none)) else (none)) else (none)) else (none))))) else (none)) else (none)))) else (some (0, ([] : List Int), ([] : List (S25)), 0, bt228.2.2)))
end
theorem lanyardref04_element.mono_l : ∀ k, (∀ y0 y1 y2 y3, LeO (lanyardref04_element.f k y0 y1 y2 y3) (lanyardref04_element.f (k + 1) y0 y1 y2 y3)) ∧ (∀ y0 y1 y2 y3 y4 y5 y6 y7, LeO (lanyardref04_element.l0 k y0 y1 y2 y3 y4 y5 y6 y7) (lanyardref04_element.l0 (k + 1) y0 y1 y2 y3 y4 y5 y6 y7)) ∧ (∀ y0 y1 y2 y3 y4 y5 y6 y7 y8 y9 y10 y11 y12, LeO (lanyardref04_element.j1 k y0 y1 y2 y3 y4 y5 y6 y7 y8 y9 y10 y11 y12) (lanyardref04_element.j1 (k + 1) y0 y1 y2 y3 y4 y5 y6 y7 y8 y9 y10 y11 y12))
 | 0 => ⟨fun _ _ _ _ r h => by simp [lanyardref04_element.f] at h, fun _ _ _ _ _ _ _ _ r h => by simp [lanyardref04_element.l0] at h, fun _ _ _ _ _ _ _ _ _ _ _ _ _ r h => by simp [lanyardref04_element.j1] at h⟩
 | k + 1 => by
  obtain ⟨ih0, ih1, ih2⟩ := lanyardref04_element.mono_l k
  refine ⟨?_, ?_, ?_⟩
  ·intro y0 y1 y2 y3
   unfold lanyardref04_element.f
   repeat' first
   | (with_reducible exact ih0 _ _ _ _)
   | (with_reducible exact ih1 _ _ _ _ _ _ _ _)
   | (with_reducible exact ih2 _ _ _ _ _ _ _ _ _ _ _ _ _)
   | (with_reducible exact lanyardref04_head.mono _ _ _ _)
   | (with_reducible exact LeO.refl _)
   | (with_reducible exact LeO.none _)
   | (with_reducible refine LeO.ite ?_ ?_)
   | (with_reducible refine LeO.bind ?_ (fun _ => ?_))
   | exact ih0 _ _ _ _
   | exact ih1 _ _ _ _ _ _ _ _
   | exact ih2 _ _ _ _ _ _ _ _ _ _ _ _ _
   | exact lanyardref04_head.mono _ _ _ _
   | exact LeO.none _
   | refine LeO.ite ?_ ?_
   | refine LeO.bind ?_ (fun _ => ?_)
  ·intro y0 y1 y2 y3 y4 y5 y6 y7
   unfold lanyardref04_element.l0
   repeat' first
   | (with_reducible exact ih0 _ _ _ _)
   | (with_reducible exact ih1 _ _ _ _ _ _ _ _)
   | (with_reducible exact ih2 _ _ _ _ _ _ _ _ _ _ _ _ _)
   | (with_reducible exact lanyardref04_head.mono _ _ _ _)
   | (with_reducible exact LeO.refl _)
   | (with_reducible exact LeO.none _)
   | (with_reducible refine LeO.ite ?_ ?_)
   | (with_reducible refine LeO.bind ?_ (fun _ => ?_))
   | exact ih0 _ _ _ _
   | exact ih1 _ _ _ _ _ _ _ _
   | exact ih2 _ _ _ _ _ _ _ _ _ _ _ _ _
   | exact lanyardref04_head.mono _ _ _ _
   | exact LeO.none _
   | refine LeO.ite ?_ ?_
   | refine LeO.bind ?_ (fun _ => ?_)
  ·intro y0 y1 y2 y3 y4 y5 y6 y7 y8 y9 y10 y11 y12
   unfold lanyardref04_element.j1
   repeat' first
   | (with_reducible exact ih0 _ _ _ _)
   | (with_reducible exact ih1 _ _ _ _ _ _ _ _)
   | (with_reducible exact ih2 _ _ _ _ _ _ _ _ _ _ _ _ _)
   | (with_reducible exact lanyardref04_head.mono _ _ _ _)
   | (with_reducible exact LeO.refl _)
   | (with_reducible exact LeO.none _)
   | (with_reducible refine LeO.ite ?_ ?_)
   | (with_reducible refine LeO.bind ?_ (fun _ => ?_))
   | exact ih0 _ _ _ _
   | exact ih1 _ _ _ _ _ _ _ _
   | exact ih2 _ _ _ _ _ _ _ _ _ _ _ _ _
   | exact lanyardref04_head.mono _ _ _ _
   | exact LeO.none _
   | refine LeO.ite ?_ ?_
   | refine LeO.bind ?_ (fun _ => ?_)
theorem lanyardref04_element.mono : ∀ a0 a1 a2 a3 k, LeO (lanyardref04_element.f k a0 a1 a2 a3) (lanyardref04_element.f (k + 1) a0 a1 a2 a3) := by
 intro a0 a1 a2 a3 k
 obtain ⟨ih0, ih1, ih2⟩ := lanyardref04_element.mono_l k
 exact ih0 a0 a1 a2 a3
set_option maxHeartbeats 8000000 in
set_option maxRecDepth 100000 in
theorem lanyardref04_element.calls (k : Nat) : ∀ (A0 : Option Addr) (c0 : Nat) (l0 : List Int) (a1 : Int) (a2 : Int) (a3 : Int) (r1 : Int) (r2 : List Int) (r3 : List (S25)) (r4 : Int) (r5 : Int) (w : World) (hr0 : Kd.C (Kd.int .u8) w A0 l0.length l0) (hc0 : l0.length ≤ c0) (h : lanyardref04_element.f k l0 a1 a2 a3 = some (r1, r2, r3, r4, r5)),
 Calls Try.prog 44 #[.slice A0 l0.length c0, .int .i64 a1, .int .i64 a2, .int .i64 a3] w fun e w' => ∃ v1_ v2_ : Value, e = .returned (.tuple #[.agg #[.int .i64 r1, v1_, v2_], .int .i64 r4, .int .i64 r5]) ∧ Kd.R (Kd.int .u8) 5 w' w.heap.size (fun _ => True) v1_ r2 ∧ Kd.R k25 25 w' w.heap.size (fun k_ => some k_ ≠ (v1_ : Value).ownBlock) v2_ r3 ∧ Below w.heap.size w w' := by
 induction k using Nat.strongRecOn with
 | _ k ih =>
 intro A0 c0 l0 a1 a2 a3 r1 r2 r3 r4 r5 w hr0 hc0 h
 cases k with
 | zero => exact absurd h (by simp [lanyardref04_element.f])
 | succ k =>
 simp only [lanyardref04_element.f] at h
 have hu25 := Try.underlying25
 have HR0 := Aside0.mk hr0
 have HC0 := Aside0.mk hc0
 clear hr0 hc0
 have HB := Aside0.mk (Below.refl w.heap.size w)
 have H : ((lanyardref04_head.f k l0 a1 a2).bind fun bt228 => (if bt228.2.2 = 0 then (if (wrap64 (bt228.1 + bt228.2.1)) > a2 then (if a2 < (l0.length : Int) then (some (0, ([] : List Int), ([] : List (S25)), 0, 2)) else (some (0, ([] : List Int), ([] : List (S25)), 0, 3))) else (if a3 ≥ 32 then (some (0, ([] : List Int), ([] : List (S25)), 0, 4)) else (if 0 ≤ a1 then (if a1 < (l0.length : Int) then ((lanyardref04_within.f (wrap64 (rd l0 a1))).bind fun t233 => (if t233 = true then (lanyardref04_element.l0 k l0 a2 a3 bt228.1 bt228.2.1 bt228.1 (wrap64 (rd l0 a1)) ([] : List (S25))) else ((some (([] : List Int) : List Int)).bind fun y234 => (if 0 ≤ bt228.1 then (if bt228.1 ≤ (wrap64 (bt228.1 + bt228.2.1)) then (if (wrap64 (bt228.1 + bt228.2.1)) ≤ (l0.length : Int) then (if y234.length + ((l0.take ((wrap64 (bt228.1 + bt228.2.1)) : Int).toNat).drop (bt228.1 : Int).toNat).length < 140737488355328 then (some (wrap64 (rd l0 a1), (y234 ++ ((l0.take ((wrap64 (bt228.1 + bt228.2.1)) : Int).toNat).drop (bt228.1 : Int).toNat)), ([] : List (S25)), wrap64 (bt228.1 + bt228.2.1), 0)) else (none)) else (none)) else (none)) else (none))))) else (none)) else (none)))) else (some (0, ([] : List Int), ([] : List (S25)), 0, bt228.2.2)))) = some (r1, r2, r3, r4, r5) := h
 clear h
 replace H := Option.bind_eq_some_iff.mp H
 obtain ⟨⟨t228, t229, t230⟩, A50, H⟩ := H
 replace H : (if t230 = 0 then (if (wrap64 (t228 + t229)) > a2 then (if a2 < (l0.length : Int) then (some (0, ([] : List Int), ([] : List (S25)), 0, 2)) else (some (0, ([] : List Int), ([] : List (S25)), 0, 3))) else (if a3 ≥ 32 then (some (0, ([] : List Int), ([] : List (S25)), 0, 4)) else (if 0 ≤ a1 then (if a1 < (l0.length : Int) then ((lanyardref04_within.f (wrap64 (rd l0 a1))).bind fun t233 => (if t233 = true then (lanyardref04_element.l0 k l0 a2 a3 t228 t229 t228 (wrap64 (rd l0 a1)) ([] : List (S25))) else ((some (([] : List Int) : List Int)).bind fun y234 => (if 0 ≤ t228 then (if t228 ≤ (wrap64 (t228 + t229)) then (if (wrap64 (t228 + t229)) ≤ (l0.length : Int) then (if y234.length + ((l0.take ((wrap64 (t228 + t229)) : Int).toNat).drop (t228 : Int).toNat).length < 140737488355328 then (some (wrap64 (rd l0 a1), (y234 ++ ((l0.take ((wrap64 (t228 + t229)) : Int).toNat).drop (t228 : Int).toNat)), ([] : List (S25)), wrap64 (t228 + t229), 0)) else (none)) else (none)) else (none)) else (none))))) else (none)) else (none)))) else (some (0, ([] : List Int), ([] : List (S25)), 0, t230))) = some (r1, r2, r3, r4, r5) := H
 have A5 := Aside0.mk A50
 clear A50
 by_cases c6 : t230 = 0
 ·rw [if_pos c6] at H
  have c6b0 : (t230 == 0) = true := beq_iff_eq.mpr c6
  have c6b1 : (t230 != 0) = false := bne_eq_false_iff_eq.mpr c6
  clear c6
  by_cases c7 : (wrap64 (t228 + t229)) > a2
  ·rw [if_pos c7] at H
   have c7b0 : decide (a2 < (wrap64 (t228 + t229))) = true := decide_eq_true c7
   clear c7
   by_cases c8 : a2 < (l0.length : Int)
   ·rw [if_pos c8] at H
    have c8b0 : decide (a2 < (l0.length : Int)) = true := decide_eq_true c8
    clear c8
    simp only [Option.some.injEq, Prod.mk.injEq] at H
    obtain ⟨rfl, rfl, rfl, rfl, rfl⟩ := H
    go_enter Try.func44, Try.ntmps44
    go_wp2_with (first | ((with_reducible refine gate_dst (N := 8) rfl ?_); refine box_event ?hg (N := 8) ?hd (cs := #[.int .i64 0, .slice none 0 0, .slice none 0 0]) (t := 25) ?hr ?_; (case hd => rfl); (case hg => rfl); (case hr => first | (go_simp; done) | (go_simp; rfl)); intro gb227 hg w9 hbox hb; have n0_ := Aside0.mk (below_step (by repeat (first | (with_reducible first | exact HB.out | apply below_alloc | apply pw_below_drewN | apply below_drew1) | exact HB.out)) hb); have n1_ := Aside0.mk (hbox); have n2_ := Aside0.mk ((by rw [hg]; exact (below_size (by repeat (first | (with_reducible first | exact HB.out | apply below_alloc | apply pw_below_drewN | apply below_drew1) | exact HB.out))) : w.heap.size ≤ gb227)); have n3_ := Aside0.mk ((by rw [hg]; exact (below_size (by repeat (first | (with_reducible first | exact HB.out | apply below_alloc | apply pw_below_drewN | apply below_drew1) | exact HB.out))) : w.heap.size ≤ gb227)); clear HB; have HB := n0_; have BK227 := n1_; have GW227 := n2_; have GE227 := n3_; clear n0_ n1_ n2_ n3_; clear hb hbox hg) | ((with_reducible refine gate_callee (f := 56) rfl ?_); refine goesL_ (some 23) rfl rfl Try.func56 (by kernel_rfl) rfl #[.slice A0 l0.length c0, .int .i64 a1, .int .i64 a2] rfl (by (try simp only [List.map_toArray, List.map_cons, List.map_nil]); first | done | rfl | (simp only [List.length_drop, List.length_take]; rfl)) ?_; (with_reducible refine (lanyardref04_head.calls k _ _ l0 a1 a2 t228 t229 t230 _ ?side1 ?side2 A5.out).mono ?_); (case side1 => repeat (first | exact (Kd.C_below HR0.out HB.out) | (with_reducible refine Kd.C_alloc ?_ _) | (with_reducible refine Kd.C_drewN ?_ _) | (with_reducible refine Kd.C_drew ?_))); (case side2 => exact HC0.out); rintro e w' ⟨rfl, ⟨nd, rfl⟩⟩; refine ⟨_, rfl, ?_⟩; (try (rw [drewN_self w9]; generalize hq_ : World.drewN w9 _ = w9; have n0_ : Aside0 (w9.heap[gb227]? = some (.cells #[.int .i64 0, .slice none 0 0, .slice none 0 0] 25 (0, 0))) := ⟨by rw [← hq_]; exact (by (with_reducible repeat (first | refine blk_drewN ?_ _ | refine blk_drew ?_ | refine blk_alloc ?_ _)); exact BK227.out)⟩; have n1_ : Aside0 (Below w.heap.size w w9) := ⟨by rw [← hq_]; exact (by repeat (first | (with_reducible first | exact HB.out | apply below_alloc | apply pw_below_drewN | apply below_drew1 | refine below_set ?_ GE227.out) | exact HB.out))⟩; clear BK227 HB hq_; have BK227 := n0_; have HB := n1_; clear n0_ n1_)); have hcz10_0 : w9.cell? ⟨gb227, 0, none⟩ = some (.int .i64 0) := (blk_cell BK227.out 0).trans rfl; have hcz10_1 : w9.cell? ⟨gb227, 1, none⟩ = some (.slice none 0 0) := (blk_cell BK227.out 1).trans rfl; have hcz10_2 : w9.cell? ⟨gb227, 2, none⟩ = some (.slice none 0 0) := (blk_cell BK227.out 2).trans rfl; have hfz10_0 := blk_frozen BK227.out 0; have hfz10_1 := blk_frozen BK227.out 1; have hfz10_2 := blk_frozen BK227.out 2))
    refine bodyPost_ret (results_ctt rfl _ _ gb227 25 #[.int .i64 0, .slice none 0 0, .slice none 0 0] (0, 0) _ rfl (by (with_reducible repeat (first | refine blk_drewN ?_ _ | refine blk_drew ?_ | refine blk_alloc ?_ _)); refine blk_put (cs := #[.int .i64 0, .slice none 0 0, .slice none 0 0]) ?_ 2 _ rfl; (with_reducible repeat (first | refine blk_drewN ?_ _ | refine blk_drew ?_ | refine blk_alloc ?_ _)); refine blk_put (cs := #[.int .i64 0, .slice none 0 0, .slice none 0 0]) ?_ 1 _ rfl; (with_reducible repeat (first | refine blk_drewN ?_ _ | refine blk_drew ?_ | refine blk_alloc ?_ _)); refine blk_put (cs := #[.int .i64 0, .slice none 0 0, .slice none 0 0]) ?_ 0 _ rfl; (with_reducible repeat (first | refine blk_drewN ?_ _ | refine blk_drew ?_ | refine blk_alloc ?_ _)); exact BK227.out) Try.underlying25 rfl (by kernel_rfl)) rfl ?_
    exact ⟨_, _, by first | rfl | (simp [errW_none, errW_some] <;> rfl) | (simp [*, errW_none, errW_some] <;> rfl), by first | exact Kd.R_nil _ _ _ _ _ | exact Kd.N_nil _ _ _ _ _ | exact Kd.V_nil _ _ _ _ _ | exact Kd.Q_nil _ _ _ _ _ | exact Kd.S_nil _ _ _ _ _, by first | exact Kd.R_nil _ _ _ _ _ | exact Kd.N_nil _ _ _ _ _ | exact Kd.V_nil _ _ _ _ _ | exact Kd.Q_nil _ _ _ _ _ | exact Kd.S_nil _ _ _ _ _, by repeat (first | (with_reducible first | exact HB.out | apply below_alloc | apply pw_below_drewN | apply below_drew1 | refine below_set ?_ GE227.out) | exact HB.out)⟩
   ·rw [if_neg c8] at H
    have c8b0 : decide (a2 < (l0.length : Int)) = false := decide_eq_false c8
    clear c8
    simp only [Option.some.injEq, Prod.mk.injEq] at H
    obtain ⟨rfl, rfl, rfl, rfl, rfl⟩ := H
    go_enter Try.func44, Try.ntmps44
    go_wp2_with (first | ((with_reducible refine gate_dst (N := 8) rfl ?_); refine box_event ?hg (N := 8) ?hd (cs := #[.int .i64 0, .slice none 0 0, .slice none 0 0]) (t := 25) ?hr ?_; (case hd => rfl); (case hg => rfl); (case hr => first | (go_simp; done) | (go_simp; rfl)); intro gb227 hg w11 hbox hb; have n0_ := Aside0.mk (below_step (by repeat (first | (with_reducible first | exact HB.out | apply below_alloc | apply pw_below_drewN | apply below_drew1) | exact HB.out)) hb); have n1_ := Aside0.mk (hbox); have n2_ := Aside0.mk ((by rw [hg]; exact (below_size (by repeat (first | (with_reducible first | exact HB.out | apply below_alloc | apply pw_below_drewN | apply below_drew1) | exact HB.out))) : w.heap.size ≤ gb227)); have n3_ := Aside0.mk ((by rw [hg]; exact (below_size (by repeat (first | (with_reducible first | exact HB.out | apply below_alloc | apply pw_below_drewN | apply below_drew1) | exact HB.out))) : w.heap.size ≤ gb227)); clear HB; have HB := n0_; have BK227 := n1_; have GW227 := n2_; have GE227 := n3_; clear n0_ n1_ n2_ n3_; clear hb hbox hg) | ((with_reducible refine gate_callee (f := 56) rfl ?_); refine goesL_ (some 23) rfl rfl Try.func56 (by kernel_rfl) rfl #[.slice A0 l0.length c0, .int .i64 a1, .int .i64 a2] rfl (by (try simp only [List.map_toArray, List.map_cons, List.map_nil]); first | done | rfl | (simp only [List.length_drop, List.length_take]; rfl)) ?_; (with_reducible refine (lanyardref04_head.calls k _ _ l0 a1 a2 t228 t229 t230 _ ?side1 ?side2 A5.out).mono ?_); (case side1 => repeat (first | exact (Kd.C_below HR0.out HB.out) | (with_reducible refine Kd.C_alloc ?_ _) | (with_reducible refine Kd.C_drewN ?_ _) | (with_reducible refine Kd.C_drew ?_))); (case side2 => exact HC0.out); rintro e w' ⟨rfl, ⟨nd, rfl⟩⟩; refine ⟨_, rfl, ?_⟩; (try (rw [drewN_self w11]; generalize hq_ : World.drewN w11 _ = w11; have n0_ : Aside0 (w11.heap[gb227]? = some (.cells #[.int .i64 0, .slice none 0 0, .slice none 0 0] 25 (0, 0))) := ⟨by rw [← hq_]; exact (by (with_reducible repeat (first | refine blk_drewN ?_ _ | refine blk_drew ?_ | refine blk_alloc ?_ _)); exact BK227.out)⟩; have n1_ : Aside0 (Below w.heap.size w w11) := ⟨by rw [← hq_]; exact (by repeat (first | (with_reducible first | exact HB.out | apply below_alloc | apply pw_below_drewN | apply below_drew1 | refine below_set ?_ GE227.out) | exact HB.out))⟩; clear BK227 HB hq_; have BK227 := n0_; have HB := n1_; clear n0_ n1_)); have hcz12_0 : w11.cell? ⟨gb227, 0, none⟩ = some (.int .i64 0) := (blk_cell BK227.out 0).trans rfl; have hcz12_1 : w11.cell? ⟨gb227, 1, none⟩ = some (.slice none 0 0) := (blk_cell BK227.out 1).trans rfl; have hcz12_2 : w11.cell? ⟨gb227, 2, none⟩ = some (.slice none 0 0) := (blk_cell BK227.out 2).trans rfl; have hfz12_0 := blk_frozen BK227.out 0; have hfz12_1 := blk_frozen BK227.out 1; have hfz12_2 := blk_frozen BK227.out 2))
    refine bodyPost_ret (results_ctt rfl _ _ gb227 25 #[.int .i64 0, .slice none 0 0, .slice none 0 0] (0, 0) _ rfl (by (with_reducible repeat (first | refine blk_drewN ?_ _ | refine blk_drew ?_ | refine blk_alloc ?_ _)); refine blk_put (cs := #[.int .i64 0, .slice none 0 0, .slice none 0 0]) ?_ 2 _ rfl; (with_reducible repeat (first | refine blk_drewN ?_ _ | refine blk_drew ?_ | refine blk_alloc ?_ _)); refine blk_put (cs := #[.int .i64 0, .slice none 0 0, .slice none 0 0]) ?_ 1 _ rfl; (with_reducible repeat (first | refine blk_drewN ?_ _ | refine blk_drew ?_ | refine blk_alloc ?_ _)); refine blk_put (cs := #[.int .i64 0, .slice none 0 0, .slice none 0 0]) ?_ 0 _ rfl; (with_reducible repeat (first | refine blk_drewN ?_ _ | refine blk_drew ?_ | refine blk_alloc ?_ _)); exact BK227.out) Try.underlying25 rfl (by kernel_rfl)) rfl ?_
    exact ⟨_, _, by first | rfl | (simp [errW_none, errW_some] <;> rfl) | (simp [*, errW_none, errW_some] <;> rfl), by first | exact Kd.R_nil _ _ _ _ _ | exact Kd.N_nil _ _ _ _ _ | exact Kd.V_nil _ _ _ _ _ | exact Kd.Q_nil _ _ _ _ _ | exact Kd.S_nil _ _ _ _ _, by first | exact Kd.R_nil _ _ _ _ _ | exact Kd.N_nil _ _ _ _ _ | exact Kd.V_nil _ _ _ _ _ | exact Kd.Q_nil _ _ _ _ _ | exact Kd.S_nil _ _ _ _ _, by repeat (first | (with_reducible first | exact HB.out | apply below_alloc | apply pw_below_drewN | apply below_drew1 | refine below_set ?_ GE227.out) | exact HB.out)⟩
  ·rw [if_neg c7] at H
   have c7b0 : decide (a2 < (wrap64 (t228 + t229))) = false := decide_eq_false c7
   clear c7
   by_cases c13 : a3 ≥ 32
   ·rw [if_pos c13] at H
    have c13b0 : decide (32 ≤ a3) = true := decide_eq_true c13
    clear c13
    simp only [Option.some.injEq, Prod.mk.injEq] at H
    obtain ⟨rfl, rfl, rfl, rfl, rfl⟩ := H
    go_enter Try.func44, Try.ntmps44
    go_wp2_with (first | ((with_reducible refine gate_dst (N := 8) rfl ?_); refine box_event ?hg (N := 8) ?hd (cs := #[.int .i64 0, .slice none 0 0, .slice none 0 0]) (t := 25) ?hr ?_; (case hd => rfl); (case hg => rfl); (case hr => first | (go_simp; done) | (go_simp; rfl)); intro gb227 hg w14 hbox hb; have n0_ := Aside0.mk (below_step (by repeat (first | (with_reducible first | exact HB.out | apply below_alloc | apply pw_below_drewN | apply below_drew1) | exact HB.out)) hb); have n1_ := Aside0.mk (hbox); have n2_ := Aside0.mk ((by rw [hg]; exact (below_size (by repeat (first | (with_reducible first | exact HB.out | apply below_alloc | apply pw_below_drewN | apply below_drew1) | exact HB.out))) : w.heap.size ≤ gb227)); have n3_ := Aside0.mk ((by rw [hg]; exact (below_size (by repeat (first | (with_reducible first | exact HB.out | apply below_alloc | apply pw_below_drewN | apply below_drew1) | exact HB.out))) : w.heap.size ≤ gb227)); clear HB; have HB := n0_; have BK227 := n1_; have GW227 := n2_; have GE227 := n3_; clear n0_ n1_ n2_ n3_; clear hb hbox hg) | ((with_reducible refine gate_callee (f := 56) rfl ?_); refine goesL_ (some 23) rfl rfl Try.func56 (by kernel_rfl) rfl #[.slice A0 l0.length c0, .int .i64 a1, .int .i64 a2] rfl (by (try simp only [List.map_toArray, List.map_cons, List.map_nil]); first | done | rfl | (simp only [List.length_drop, List.length_take]; rfl)) ?_; (with_reducible refine (lanyardref04_head.calls k _ _ l0 a1 a2 t228 t229 t230 _ ?side1 ?side2 A5.out).mono ?_); (case side1 => repeat (first | exact (Kd.C_below HR0.out HB.out) | (with_reducible refine Kd.C_alloc ?_ _) | (with_reducible refine Kd.C_drewN ?_ _) | (with_reducible refine Kd.C_drew ?_))); (case side2 => exact HC0.out); rintro e w' ⟨rfl, ⟨nd, rfl⟩⟩; refine ⟨_, rfl, ?_⟩; (try (rw [drewN_self w14]; generalize hq_ : World.drewN w14 _ = w14; have n0_ : Aside0 (w14.heap[gb227]? = some (.cells #[.int .i64 0, .slice none 0 0, .slice none 0 0] 25 (0, 0))) := ⟨by rw [← hq_]; exact (by (with_reducible repeat (first | refine blk_drewN ?_ _ | refine blk_drew ?_ | refine blk_alloc ?_ _)); exact BK227.out)⟩; have n1_ : Aside0 (Below w.heap.size w w14) := ⟨by rw [← hq_]; exact (by repeat (first | (with_reducible first | exact HB.out | apply below_alloc | apply pw_below_drewN | apply below_drew1 | refine below_set ?_ GE227.out) | exact HB.out))⟩; clear BK227 HB hq_; have BK227 := n0_; have HB := n1_; clear n0_ n1_)); have hcz15_0 : w14.cell? ⟨gb227, 0, none⟩ = some (.int .i64 0) := (blk_cell BK227.out 0).trans rfl; have hcz15_1 : w14.cell? ⟨gb227, 1, none⟩ = some (.slice none 0 0) := (blk_cell BK227.out 1).trans rfl; have hcz15_2 : w14.cell? ⟨gb227, 2, none⟩ = some (.slice none 0 0) := (blk_cell BK227.out 2).trans rfl; have hfz15_0 := blk_frozen BK227.out 0; have hfz15_1 := blk_frozen BK227.out 1; have hfz15_2 := blk_frozen BK227.out 2))
    refine bodyPost_ret (results_ctt rfl _ _ gb227 25 #[.int .i64 0, .slice none 0 0, .slice none 0 0] (0, 0) _ rfl (by (with_reducible repeat (first | refine blk_drewN ?_ _ | refine blk_drew ?_ | refine blk_alloc ?_ _)); refine blk_put (cs := #[.int .i64 0, .slice none 0 0, .slice none 0 0]) ?_ 2 _ rfl; (with_reducible repeat (first | refine blk_drewN ?_ _ | refine blk_drew ?_ | refine blk_alloc ?_ _)); refine blk_put (cs := #[.int .i64 0, .slice none 0 0, .slice none 0 0]) ?_ 1 _ rfl; (with_reducible repeat (first | refine blk_drewN ?_ _ | refine blk_drew ?_ | refine blk_alloc ?_ _)); refine blk_put (cs := #[.int .i64 0, .slice none 0 0, .slice none 0 0]) ?_ 0 _ rfl; (with_reducible repeat (first | refine blk_drewN ?_ _ | refine blk_drew ?_ | refine blk_alloc ?_ _)); exact BK227.out) Try.underlying25 rfl (by kernel_rfl)) rfl ?_
    exact ⟨_, _, by first | rfl | (simp [errW_none, errW_some] <;> rfl) | (simp [*, errW_none, errW_some] <;> rfl), by first | exact Kd.R_nil _ _ _ _ _ | exact Kd.N_nil _ _ _ _ _ | exact Kd.V_nil _ _ _ _ _ | exact Kd.Q_nil _ _ _ _ _ | exact Kd.S_nil _ _ _ _ _, by first | exact Kd.R_nil _ _ _ _ _ | exact Kd.N_nil _ _ _ _ _ | exact Kd.V_nil _ _ _ _ _ | exact Kd.Q_nil _ _ _ _ _ | exact Kd.S_nil _ _ _ _ _, by repeat (first | (with_reducible first | exact HB.out | apply below_alloc | apply pw_below_drewN | apply below_drew1 | refine below_set ?_ GE227.out) | exact HB.out)⟩
   ·rw [if_neg c13] at H
    have c13b0 : decide (32 ≤ a3) = false := decide_eq_false c13
    clear c13
    by_cases c16 : 0 ≤ a1
    ·rw [if_pos c16] at H
     have c16b0 : decide (0 ≤ a1) = true := decide_eq_true c16
     clear c16
     by_cases c17 : a1 < (l0.length : Int)
     ·rw [if_pos c17] at H
      have c17b0 : decide (a1 < (l0.length : Int)) = true := decide_eq_true c17
      clear c17
      replace H := Option.bind_eq_some_iff.mp H
      obtain ⟨t233, A180, H⟩ := H
      replace H : (if t233 = true then (lanyardref04_element.l0 k l0 a2 a3 t228 t229 t228 (wrap64 (rd l0 a1)) ([] : List (S25))) else ((some (([] : List Int) : List Int)).bind fun y234 => (if 0 ≤ t228 then (if t228 ≤ (wrap64 (t228 + t229)) then (if (wrap64 (t228 + t229)) ≤ (l0.length : Int) then (if y234.length + ((l0.take ((wrap64 (t228 + t229)) : Int).toNat).drop (t228 : Int).toNat).length < 140737488355328 then (some (wrap64 (rd l0 a1), (y234 ++ ((l0.take ((wrap64 (t228 + t229)) : Int).toNat).drop (t228 : Int).toNat)), ([] : List (S25)), wrap64 (t228 + t229), 0)) else (none)) else (none)) else (none)) else (none)))) = some (r1, r2, r3, r4, r5) := H
      have A18 := Aside0.mk A180
      clear A180
      by_cases c19 : t233 = true
      ·subst c19
       have H1 : (lanyardref04_element.l0 k l0 a2 a3 t228 t229 t228 (wrap64 (rd l0 a1)) ([] : List (S25))) = some (r1, r2, r3, r4, r5) := by rw [if_pos rfl] at H; exact H
       clear H
       have H := H1
       clear H1
       have H' := Aside0.mk H
       clear H
       go_enter Try.func44, Try.ntmps44
       go_wp2_with (first | ((with_reducible refine gate_dst (N := 8) rfl ?_); refine box_event ?hg (N := 8) ?hd (cs := #[.int .i64 0, .slice none 0 0, .slice none 0 0]) (t := 25) ?hr ?_; (case hd => rfl); (case hg => rfl); (case hr => first | (go_simp; done) | (go_simp; rfl)); intro gb227 hg w20 hbox hb; have n0_ := Aside0.mk (below_step (by repeat (first | (with_reducible first | exact HB.out | apply below_alloc | apply pw_below_drewN | apply below_drew1) | exact HB.out)) hb); have n1_ := Aside0.mk (hbox); have n2_ := Aside0.mk ((by rw [hg]; exact (below_size (by repeat (first | (with_reducible first | exact HB.out | apply below_alloc | apply pw_below_drewN | apply below_drew1) | exact HB.out))) : w.heap.size ≤ gb227)); have n3_ := Aside0.mk ((by rw [hg]; exact (below_size (by repeat (first | (with_reducible first | exact HB.out | apply below_alloc | apply pw_below_drewN | apply below_drew1) | exact HB.out))) : w.heap.size ≤ gb227)); clear HB; have HB := n0_; have BK227 := n1_; have GW227 := n2_; have GE227 := n3_; clear n0_ n1_ n2_ n3_; clear hb hbox hg) | ((with_reducible refine gate_callee (f := 56) rfl ?_); refine goesL_ (some 23) rfl rfl Try.func56 (by kernel_rfl) rfl #[.slice A0 l0.length c0, .int .i64 a1, .int .i64 a2] rfl (by (try simp only [List.map_toArray, List.map_cons, List.map_nil]); first | done | rfl | (simp only [List.length_drop, List.length_take]; rfl)) ?_; (with_reducible refine (lanyardref04_head.calls k _ _ l0 a1 a2 t228 t229 t230 _ ?side1 ?side2 A5.out).mono ?_); (case side1 => repeat (first | exact (Kd.C_below HR0.out HB.out) | (with_reducible refine Kd.C_alloc ?_ _) | (with_reducible refine Kd.C_drewN ?_ _) | (with_reducible refine Kd.C_drew ?_))); (case side2 => exact HC0.out); rintro e w' ⟨rfl, ⟨nd, rfl⟩⟩; refine ⟨_, rfl, ?_⟩; (try (rw [drewN_self w20]; generalize hq_ : World.drewN w20 _ = w20; have n0_ : Aside0 (w20.heap[gb227]? = some (.cells #[.int .i64 0, .slice none 0 0, .slice none 0 0] 25 (0, 0))) := ⟨by rw [← hq_]; exact (by (with_reducible repeat (first | refine blk_drewN ?_ _ | refine blk_drew ?_ | refine blk_alloc ?_ _)); exact BK227.out)⟩; have n1_ : Aside0 (Below w.heap.size w w20) := ⟨by rw [← hq_]; exact (by repeat (first | (with_reducible first | exact HB.out | apply below_alloc | apply pw_below_drewN | apply below_drew1 | refine below_set ?_ GE227.out) | exact HB.out))⟩; clear BK227 HB hq_; have BK227 := n0_; have HB := n1_; clear n0_ n1_)); have p231 : 0 ≤ (a1 : Int) := of_decide_eq_true (by first | (with_reducible assumption) | assumption); have q231 : a1 < (l0.length : Int) := of_decide_eq_true (by first | (with_reducible assumption) | assumption); obtain ⟨ad231, e231, hx231_0⟩ := Kd.at_int HR0.out a1 p231 q231; cases e231; replace hx231_0 := (HB.out.cell (World.block_lt_of_cell? w _ hx231_0)).trans hx231_0; replace p231 := eq_true p231; replace q231 := eq_true q231) | ((with_reducible refine gate_dst (N := 14) rfl ?_); refine box_event ?hg (N := 14) ?hd (cs := #[.int .i64 0, .slice none 0 0, .slice none 0 0]) (t := 25) ?hr ?_; (case hd => rfl); (case hg => rfl); (case hr => first | (go_simp; done) | (go_simp; rfl)); intro gb232 hg w21 hbox hb; have n0_ := Aside0.mk (blk_below (g := gb227) (o := .cells #[.int .i64 0, .slice none 0 0, .slice none 0 0] 25 (0, 0)) (by (with_reducible repeat (first | refine blk_drewN ?_ _ | refine blk_drew ?_ | refine blk_alloc ?_ _)); exact BK227.out) hb); have n1_ := Aside0.mk (below_step (by repeat (first | (with_reducible first | exact HB.out | apply below_alloc | apply pw_below_drewN | apply below_drew1 | refine below_set ?_ GE227.out) | exact HB.out)) hb); have n2_ := Aside0.mk (hbox); have n3_ := Aside0.mk ((by rw [hg]; exact (below_size (by repeat (first | (with_reducible first | exact HB.out | apply below_alloc | apply pw_below_drewN | apply below_drew1 | refine below_set ?_ GE227.out) | exact HB.out))) : w.heap.size ≤ gb232)); have n4_ := Aside0.mk ((by rw [hg]; exact (below_size (by repeat (first | (with_reducible first | exact HB.out | apply below_alloc | apply pw_below_drewN | apply below_drew1 | refine below_set ?_ GE227.out) | exact HB.out))) : w.heap.size ≤ gb232)); have n5_ := Aside0.mk ((by rw [hg]; exact Nat.ne_of_lt (blk_lt (g := gb227) (o := .cells #[.int .i64 0, .slice none 0 0, .slice none 0 0] 25 (0, 0)) (by (with_reducible repeat (first | refine blk_drewN ?_ _ | refine blk_drew ?_ | refine blk_alloc ?_ _)); exact BK227.out)) : gb227 ≠ gb232)); have n6_ := Aside0.mk ((by rw [hg]; exact Nat.ne_of_gt (blk_lt (g := gb227) (o := .cells #[.int .i64 0, .slice none 0 0, .slice none 0 0] 25 (0, 0)) (by (with_reducible repeat (first | refine blk_drewN ?_ _ | refine blk_drew ?_ | refine blk_alloc ?_ _)); exact BK227.out)) : gb232 ≠ gb227)); clear BK227; clear HB; have BK227 := n0_; have HB := n1_; have BK232 := n2_; have GW232 := n3_; have GE232 := n4_; have NB227_232 := n5_; have NB232_227 := n6_; clear n0_ n1_ n2_ n3_ n4_ n5_ n6_; clear hb hbox hg; have hnb22 := NB232_227.out; have hnc22 := NB227_232.out; have hcz23_0 : w21.cell? ⟨gb232, 0, none⟩ = some (.int .i64 0) := (blk_cell BK232.out 0).trans rfl; have hcz23_1 : w21.cell? ⟨gb232, 1, none⟩ = some (.slice none 0 0) := (blk_cell BK232.out 1).trans rfl; have hcz23_2 : w21.cell? ⟨gb232, 2, none⟩ = some (.slice none 0 0) := (blk_cell BK232.out 2).trans rfl; have hfz23_0 := blk_frozen BK232.out 0; have hfz23_1 := blk_frozen BK232.out 1; have hfz23_2 := blk_frozen BK232.out 2) | ((with_reducible refine gate_callee (f := 50) rfl ?_); refine goesL_ (some 53) rfl rfl Try.func50 (by kernel_rfl) rfl #[.int .i64 (wrap64 (rd l0 a1))] rfl (by (try simp only [List.map_toArray, List.map_cons, List.map_nil]); first | done | rfl | (simp only [List.length_drop, List.length_take]; rfl)) ?_; (with_reducible refine (lanyardref04_within.calls (wrap64 (rd l0 a1)) true _ A18.out).mono ?_); rintro e w' ⟨rfl, ⟨nd, rfl⟩⟩; refine ⟨_, rfl, ?_⟩))
       go_loopg [15] k (fun kq v15 w' => ∃ (x15_1 : Int) (x228000_1 : Int) (x233002_1 : List (S25)) (u233002 : Value), v15 = .int .i64 x15_1 ∧ Aside0 (lanyardref04_element.l0 kq l0 a2 a3 t228 t229 x15_1 (wrap64 (rd l0 a1)) x233002_1 = some (r1, r2, r3, r4, r5)) ∧ Aside0 (kq ≤ k) ∧ Aside0 (Kd.R k25 25 w' w.heap.size (fun k_ => k_ ≠ gb227 ∧ k_ ≠ gb232) u233002 x233002_1) ∧ Aside0 (w'.heap[gb227]? = some (.cells #[.int .i64 x228000_1, (.slice none 0 0), (.slice none 0 0)] 25 (0, 0))) ∧ Aside0 (w'.heap[gb232]? = some (.cells #[.int .i64 (wrap64 (rd l0 a1)), (.slice none 0 0), u233002] 25 (0, 0))) ∧ Aside0 (Below w.heap.size w w'))
       case atStart => exact ⟨(t228), (0), (([] : List (S25))), (.slice none 0 0), (by first | rfl | (simp; done) | (simp [*]; done)), H', ⟨Nat.le_refl _⟩, ⟨by first | exact Kd.R_nil _ _ _ _ _ | exact Kd.N_nil _ _ _ _ _ | exact Kd.V_nil _ _ _ _ _ | exact Kd.Q_nil _ _ _ _ _ | exact Kd.S_nil _ _ _ _ _⟩, ⟨by (with_reducible repeat (first | refine blk_drewN ?_ _ | refine blk_drew ?_ | refine blk_alloc ?_ _)); refine blk_far ?_ NB227_232.out _; (with_reducible repeat (first | refine blk_drewN ?_ _ | refine blk_drew ?_ | refine blk_alloc ?_ _)); refine blk_far ?_ NB227_232.out _; (with_reducible repeat (first | refine blk_drewN ?_ _ | refine blk_drew ?_ | refine blk_alloc ?_ _)); refine blk_far ?_ NB227_232.out _; (with_reducible repeat (first | refine blk_drewN ?_ _ | refine blk_drew ?_ | refine blk_alloc ?_ _)); exact BK227.out⟩, ⟨by (with_reducible repeat (first | refine blk_drewN ?_ _ | refine blk_drew ?_ | refine blk_alloc ?_ _)); refine blk_put (cs := #[.int .i64 (wrap64 (rd l0 a1)), .slice none 0 0, .slice none 0 0]) ?_ 2 _ rfl; (with_reducible repeat (first | refine blk_drewN ?_ _ | refine blk_drew ?_ | refine blk_alloc ?_ _)); refine blk_put (cs := #[.int .i64 (wrap64 (rd l0 a1)), .slice none 0 0, .slice none 0 0]) ?_ 1 _ rfl; (with_reducible repeat (first | refine blk_drewN ?_ _ | refine blk_drew ?_ | refine blk_alloc ?_ _)); refine blk_put (cs := #[.int .i64 0, .slice none 0 0, .slice none 0 0]) ?_ 0 _ rfl; (with_reducible repeat (first | refine blk_drewN ?_ _ | refine blk_drew ?_ | refine blk_alloc ?_ _)); exact BK232.out⟩, ⟨by repeat (first | (with_reducible first | exact HB.out | apply below_alloc | apply pw_below_drewN | apply below_drew1 | refine below_set ?_ GE227.out | refine below_set ?_ GE232.out) | exact HB.out)⟩⟩
       case round =>
        clear H'
        try clear c1
        try clear c2
        try clear p2
        try clear q2
        try clear hx2
        try clear c4
        try clear c5
        try clear c6
        try clear c6b0
        try clear c6b1
        try clear p6
        try clear c7
        try clear c7b0
        try clear c8
        try clear c8b0
        try clear c13
        try clear c13b0
        try clear c16
        try clear c16b0
        try clear c17
        try clear c17b0
        try clear c19
        try clear c22
        try clear p23
        try clear q23
        try clear hx23
        try clear hcz10_0
        try clear hcz10_1
        try clear hcz10_2
        try clear hcz12_0
        try clear hcz12_1
        try clear hcz12_2
        try clear hcz15_0
        try clear hcz15_1
        try clear hcz15_2
        try clear hcz23_0
        try clear hcz23_1
        try clear hcz23_2
        try clear hfz10_0
        try clear hfz10_1
        try clear hfz10_2
        try clear hfz12_0
        try clear hfz12_1
        try clear hfz12_2
        try clear hfz15_0
        try clear hfz15_1
        try clear hfz15_2
        try clear hfz23_0
        try clear hfz23_1
        try clear hfz23_2
        try clear hx231_0
        try clear p231
        try clear q231
        obtain ⟨x15_1, x228000_1, x233002_1, u233002, rfl, HA, HK1, HO_233002, BK227, BK232, HB⟩ := hrel
        cases gk with
        | zero => exact absurd HA.out (by simp [lanyardref04_element.l0])
        | succ k1 =>
         have H := HA.out
         clear HA
         simp only [lanyardref04_element.l0] at H
         by_cases c24 : x15_1 < (wrap64 (t228 + t229))
         ·rw [if_pos c24] at H
          have c24b0 : decide (x15_1 < (wrap64 (t228 + t229))) = true := decide_eq_true c24
          clear c24
          obtain ⟨ji25, hji25⟩ : ∃ j_ : Int, (wrap64 (t228 + t229)) = j_ := ⟨_, rfl⟩
          replace H : (if 0 ≤ (ji25) then (if (ji25) ≤ (l0.length : Int) then ((lanyardref04_element.f k1 (l0.take ((ji25) : Int).toNat) x15_1 (ji25) (wrap64 (a3 + 1))).bind fun bt242 => (if bt242.2.2.2.2 = 3 then (lanyardref04_element.j1 k1 l0 a2 a3 t228 t229 bt242.2.2.2.1 bt242.2.2.2.2 (decide ((ji25) ≤ a2)) (wrap64 (rd l0 a1)) x233002_1 bt242.1 bt242.2.1 bt242.2.2.1) else (lanyardref04_element.j1 k1 l0 a2 a3 t228 t229 bt242.2.2.2.1 bt242.2.2.2.2 false (wrap64 (rd l0 a1)) x233002_1 bt242.1 bt242.2.1 bt242.2.2.1))) else (none)) else (none)) = some (r1, r2, r3, r4, r5) := by first | (rw [hji25] at H; exact H) | (simp only [hji25] at H ⊢; exact H)
          (try rw [hji25] at c7b0)
          (try rw [hji25] at c24b0)
          have hji25w : (IntKind.i64.wrap (t228 + t229)) = ji25 := (i64_w _).trans hji25
          by_cases c26 : 0 ≤ (ji25)
          ·rw [if_pos c26] at H
           have c26b0 := eq_true c26
           have c26b1 : decide (0 ≤ (ji25)) = true := decide_eq_true c26
           clear c26
           by_cases c27 : (ji25) ≤ (l0.length : Int)
           ·rw [if_pos c27] at H
            have c27b0 := eq_true c27
            have c27b1 : decide ((ji25) ≤ (l0.length : Int)) = true := decide_eq_true c27
            clear c27
            replace H := Option.bind_eq_some_iff.mp H
            obtain ⟨⟨t242, t243, t246, t249, t250⟩, A280, H⟩ := H
            replace H : (if t250 = 3 then (lanyardref04_element.j1 k1 l0 a2 a3 t228 t229 t249 t250 (decide ((ji25) ≤ a2)) (wrap64 (rd l0 a1)) x233002_1 t242 t243 t246) else (lanyardref04_element.j1 k1 l0 a2 a3 t228 t229 t249 t250 false (wrap64 (rd l0 a1)) x233002_1 t242 t243 t246)) = some (r1, r2, r3, r4, r5) := H
            have A28 := Aside0.mk A280
            clear A280
            have HC29 := Aside0.mk H
            clear H
            obtain ⟨i030, hi030, _, hsz30, _⟩ := info_parts info5
            obtain ⟨hcut30, hA30, hC30⟩ := print_take_of (P := Try.prog) (Value.int .u8) 0 22 5 .i64 Try.underlying22 hi030 hsz30 (some ad231) c0 l0 (ji25) (of_decide_eq_true (by first | (with_reducible assumption) | assumption)) (of_decide_eq_true (by first | (with_reducible assumption) | assumption)) HC0.out
            have HR241 := Aside0.mk (Kd.C_of_reads (h1 := fun _ => rfl) (hA30 _ (Kd.reads_of_C HR0.out)))
            have HC241 := Aside0.mk hC30
            clear hA30 hC30 hi030 hsz30
            go_upto_region 17 with (first | ((with_reducible refine gate_callee (f := 44) rfl ?_); refine goesL_ (some 86) rfl rfl Try.func44 (by kernel_rfl) rfl #[.slice (some ad231) (l0.take ((ji25) : Int).toNat).length c0, .int .i64 x15_1, .int .i64 ji25, .int .i64 (wrap64 (a3 + 1))] rfl (by (try simp only [List.map_toArray, List.map_cons, List.map_nil]); first | done | (rw [show (l0.take ((ji25) : Int).toNat).length = (ji25).toNat from (by rw [List.length_take]; have h_ : ((ji25) : Int) ≤ (l0.length : Int) := of_decide_eq_true (by first | (with_reducible assumption) | assumption); omega)] <;> rfl) | (simp only [hji25]; rfl) | rfl | (simp only [List.length_drop, List.length_take]; rfl)) ?_; (with_reducible refine (ih k1 (by have := HK1.out; omega) _ _ (l0.take ((ji25) : Int).toNat) x15_1 ji25 (wrap64 (a3 + 1)) t242 t243 t246 t249 t250 _ ?side1 ?side2 A28.out).mono ?_); (case side1 => repeat (first | exact (Kd.C_below HR241.out HB.out) | (with_reducible refine Kd.C_alloc ?_ _) | (with_reducible refine Kd.C_drewN ?_ _) | (with_reducible refine Kd.C_drew ?_))); (case side2 => exact HC241.out); rintro e w31 ⟨v244, v247, rfl, ho0, ho1, hb⟩; refine ⟨_, rfl, ?_⟩; have n0_ := Aside0.mk (Kd.R_mono (Kd.R_told (Kd.R_told (Kd.R_old (by (with_reducible repeat (first | apply Kd.R_alloc | apply Kd.R_drewN | apply Kd.R_drew)); exact HO_233002.out) hb) (Kd.R_base ho0)) (Kd.R_base ho1)) (fun _ h_ => h_.1)); have n1_ := Aside0.mk (Kd.R_lower ho0 (below_size (by repeat (first | (with_reducible first | exact HB.out | apply below_alloc | apply pw_below_drewN | apply below_drew1 | refine below_set ?_ GE227.out | refine below_set ?_ GE232.out) | exact HB.out)))); have n2_ := Aside0.mk (Kd.R_lower (Kd.R_newB (Kd.R_newB (Kd.R_new' ho1 (Kd.R_lt (by (with_reducible repeat (first | apply Kd.R_alloc | apply Kd.R_drewN | apply Kd.R_drew)); exact HO_233002.out))) (g := gb227) (o := .cells #[.int .i64 x228000_1, .slice none 0 0, .slice none 0 0] 25 (0, 0)) (by (with_reducible repeat (first | refine blk_drewN ?_ _ | refine blk_drew ?_ | refine blk_alloc ?_ _)); exact BK227.out)) (g := gb232) (o := .cells #[.int .i64 (wrap64 (rd l0 a1)), .slice none 0 0, u233002] 25 (0, 0)) (by (with_reducible repeat (first | refine blk_drewN ?_ _ | refine blk_drew ?_ | refine blk_alloc ?_ _)); exact BK232.out)) (below_size (by repeat (first | (with_reducible first | exact HB.out | apply below_alloc | apply pw_below_drewN | apply below_drew1 | refine below_set ?_ GE227.out | refine below_set ?_ GE232.out) | exact HB.out)))); have n3_ := Aside0.mk (blk_below (g := gb227) (o := .cells #[.int .i64 x228000_1, .slice none 0 0, .slice none 0 0] 25 (0, 0)) (by (with_reducible repeat (first | refine blk_drewN ?_ _ | refine blk_drew ?_ | refine blk_alloc ?_ _)); exact BK227.out) hb); have n4_ := Aside0.mk (blk_below (g := gb232) (o := .cells #[.int .i64 (wrap64 (rd l0 a1)), .slice none 0 0, u233002] 25 (0, 0)) (by (with_reducible repeat (first | refine blk_drewN ?_ _ | refine blk_drew ?_ | refine blk_alloc ?_ _)); exact BK232.out) hb); have n5_ := Aside0.mk (below_step (by repeat (first | (with_reducible first | exact HB.out | apply below_alloc | apply pw_below_drewN | apply below_drew1 | refine below_set ?_ GE227.out | refine below_set ?_ GE232.out) | exact HB.out)) hb); clear HO_233002; clear BK227; clear BK232; clear HB; have HO_233002 := n0_; have HO245 := n1_; have HO248 := n2_; have BK227 := n3_; have BK232 := n4_; have HB := n5_; clear n0_ n1_ n2_ n3_ n4_ n5_; (try clear hb); (try clear hb2); (try clear hk); (try clear hi); (try clear ho0); (try clear ho1)) | ((with_reducible refine gate_dst (N := 16) rfl ?_); refine box_event ?hg (N := 16) ?hd (cs := #[.int .i64 0, .slice none 0 0, .slice none 0 0]) (t := 25) ?hr ?_; (case hd => rfl); (case hg => rfl); (case hr => first | (go_simp; done) | (go_simp; rfl)); intro gb251 hg w32 hbox hb; have n0_ := Aside0.mk (Kd.R_below (Kd.R_elderB (by (with_reducible repeat (first | apply Kd.R_alloc | apply Kd.R_drewN | apply Kd.R_drew)); exact HO_233002.out) gb251 (Nat.le_of_eq hg.symm)) hb); have n1_ := Aside0.mk (Kd.R_below (by (with_reducible repeat (first | apply Kd.R_alloc | apply Kd.R_drewN | apply Kd.R_drew)); exact HO245.out) hb); have n2_ := Aside0.mk (Kd.R_below (Kd.R_elderB (by (with_reducible repeat (first | apply Kd.R_alloc | apply Kd.R_drewN | apply Kd.R_drew)); exact HO248.out) gb251 (Nat.le_of_eq hg.symm)) hb); have n3_ := Aside0.mk (blk_below (g := gb227) (o := .cells #[.int .i64 x228000_1, .slice none 0 0, .slice none 0 0] 25 (0, 0)) (by (with_reducible repeat (first | refine blk_drewN ?_ _ | refine blk_drew ?_ | refine blk_alloc ?_ _)); exact BK227.out) hb); have n4_ := Aside0.mk (blk_below (g := gb232) (o := .cells #[.int .i64 (wrap64 (rd l0 a1)), .slice none 0 0, u233002] 25 (0, 0)) (by (with_reducible repeat (first | refine blk_drewN ?_ _ | refine blk_drew ?_ | refine blk_alloc ?_ _)); exact BK232.out) hb); have n5_ := Aside0.mk (below_step (by repeat (first | (with_reducible first | exact HB.out | apply below_alloc | apply pw_below_drewN | apply below_drew1 | refine below_set ?_ GE227.out | refine below_set ?_ GE232.out) | exact HB.out)) hb); have n6_ := Aside0.mk (hbox); have n7_ := Aside0.mk ((by rw [hg]; exact (below_size (by repeat (first | (with_reducible first | exact HB.out | apply below_alloc | apply pw_below_drewN | apply below_drew1 | refine below_set ?_ GE227.out | refine below_set ?_ GE232.out) | exact HB.out))) : w.heap.size ≤ gb251)); have n8_ := Aside0.mk ((by rw [hg]; exact (below_size (by repeat (first | (with_reducible first | exact HB.out | apply below_alloc | apply pw_below_drewN | apply below_drew1 | refine below_set ?_ GE227.out | refine below_set ?_ GE232.out) | exact HB.out))) : w.heap.size ≤ gb251)); have n9_ := Aside0.mk ((by rw [hg]; exact Nat.ne_of_lt (blk_lt (g := gb227) (o := .cells #[.int .i64 x228000_1, .slice none 0 0, .slice none 0 0] 25 (0, 0)) (by (with_reducible repeat (first | refine blk_drewN ?_ _ | refine blk_drew ?_ | refine blk_alloc ?_ _)); exact BK227.out)) : gb227 ≠ gb251)); have n10_ := Aside0.mk ((by rw [hg]; exact Nat.ne_of_gt (blk_lt (g := gb227) (o := .cells #[.int .i64 x228000_1, .slice none 0 0, .slice none 0 0] 25 (0, 0)) (by (with_reducible repeat (first | refine blk_drewN ?_ _ | refine blk_drew ?_ | refine blk_alloc ?_ _)); exact BK227.out)) : gb251 ≠ gb227)); have n11_ := Aside0.mk ((by rw [hg]; exact Nat.ne_of_lt (blk_lt (g := gb232) (o := .cells #[.int .i64 (wrap64 (rd l0 a1)), .slice none 0 0, u233002] 25 (0, 0)) (by (with_reducible repeat (first | refine blk_drewN ?_ _ | refine blk_drew ?_ | refine blk_alloc ?_ _)); exact BK232.out)) : gb232 ≠ gb251)); have n12_ := Aside0.mk ((by rw [hg]; exact Nat.ne_of_gt (blk_lt (g := gb232) (o := .cells #[.int .i64 (wrap64 (rd l0 a1)), .slice none 0 0, u233002] 25 (0, 0)) (by (with_reducible repeat (first | refine blk_drewN ?_ _ | refine blk_drew ?_ | refine blk_alloc ?_ _)); exact BK232.out)) : gb251 ≠ gb232)); clear HO_233002; clear HO245; clear HO248; clear BK227; clear BK232; clear HB; have HO_233002 := n0_; have HO245 := n1_; have HO248 := n2_; have BK227 := n3_; have BK232 := n4_; have HB := n5_; have BK251 := n6_; have GW251 := n7_; have GE251 := n8_; have NB227_251 := n9_; have NB251_227 := n10_; have NB232_251 := n11_; have NB251_232 := n12_; clear n0_ n1_ n2_ n3_ n4_ n5_ n6_ n7_ n8_ n9_ n10_ n11_ n12_; clear hb hbox hg; have hnb33 := NB251_227.out; have hnc33 := NB227_251.out; have hnb34 := NB251_232.out; have hnc34 := NB232_251.out; have hcz35_0 : w32.cell? ⟨gb251, 0, none⟩ = some (.int .i64 0) := (blk_cell BK251.out 0).trans rfl; have hcz35_1 : w32.cell? ⟨gb251, 1, none⟩ = some (.slice none 0 0) := (blk_cell BK251.out 1).trans rfl; have hcz35_2 : w32.cell? ⟨gb251, 2, none⟩ = some (.slice none 0 0) := (blk_cell BK251.out 2).trans rfl; have hfz35_0 := blk_frozen BK251.out 0; have hfz35_1 := blk_frozen BK251.out 1; have hfz35_2 := blk_frozen BK251.out 2; obtain ⟨Ao36, co36, eo36⟩ := Kd.R_slice HO245.out; subst eo36; obtain ⟨Ao37, co37, eo37⟩ := Kd.R_slice HO248.out; subst eo37))
            (try simp only [Act.put, List.setIfInBounds_toArray, List.set_cons_zero, List.set_cons_succ])
            go_cut [98] (fun v98 wc => ∃ (kq : Nat) (x98_28 : Bool), v98 = .bool x98_28 ∧ Aside0 (lanyardref04_element.j1 kq l0 a2 a3 t228 t229 t249 t250 x98_28 (wrap64 (rd l0 a1)) x233002_1 t242 t243 t246 = some (r1, r2, r3, r4, r5)) ∧ Aside0 (kq ≤ k1) ∧ Aside0 (Kd.R k25 25 wc w.heap.size (fun k_ => some k_ ≠ ((.slice Ao36 t243.length co36) : Value).ownBlock ∧ some k_ ≠ ((.slice Ao37 t246.length co37) : Value).ownBlock ∧ k_ ≠ gb227 ∧ k_ ≠ gb232 ∧ k_ ≠ gb251) u233002 x233002_1) ∧ Aside0 (Kd.R (Kd.int .u8) 5 wc w.heap.size (fun _ => True) (.slice Ao36 t243.length co36) t243) ∧ Aside0 (Kd.R k25 25 wc w.heap.size (fun k_ => some k_ ≠ (u233002 : Value).ownBlock ∧ some k_ ≠ ((.slice Ao36 t243.length co36) : Value).ownBlock ∧ k_ ≠ gb227 ∧ k_ ≠ gb232 ∧ k_ ≠ gb251) (.slice Ao37 t246.length co37) t246) ∧ Aside0 (wc.heap[gb227]? = some (.cells #[.int .i64 x228000_1, (.slice none 0 0), (.slice none 0 0)] 25 (0, 0))) ∧ Aside0 (wc.heap[gb232]? = some (.cells #[.int .i64 (wrap64 (rd l0 a1)), (.slice none 0 0), u233002] 25 (0, 0))) ∧ Aside0 (wc.heap[gb251]? = some (.cells #[.int .i64 t242, (.slice Ao36 t243.length co36), (.slice Ao37 t246.length co37)] 25 (0, 0))) ∧ Aside0 (Below w.heap.size w wc))
            case first =>
             have H := HC29.out
             clear HC29
             by_cases c38 : t250 = 3
             ·rw [if_pos c38] at H
              have c38b0 : (t250 == 3) = true := beq_iff_eq.mpr c38
              have c38b1 : (t250 != 3) = false := bne_eq_false_iff_eq.mpr c38
              clear c38
              (first | rw [c38b0] | (simp only [i64_w, i32_w]; rw [c38b0]) | skip)
              have H' := Aside0.mk H
              clear H
              go_wp2
              go_meet
              case rel => exact ⟨_, (decide ((ji25) ≤ a2)), (by first | rfl | (simp; done) | (simp only [← hji25] <;> (first | rfl | simp)) | (simp [*]; done)), H', ⟨by have := HK1.out; first | omega | exact Nat.le_refl _⟩, ⟨by (with_reducible repeat (first | apply Kd.R_alloc | apply Kd.R_drewN | apply Kd.R_drew)); exact Kd.R_mono (Kd.R_far (p := ⟨gb251, 2, none⟩) (Kd.R_far (p := ⟨gb251, 1, none⟩) (Kd.R_far (p := ⟨gb251, 0, none⟩) (Kd.R_mono HO_233002.out (fun k_ hk => (⟨hk, hk.2⟩ : _ ∧ k_ ≠ gb251))) (fun _ hk => hk.2) (.int .i64 t242)) (fun _ hk => hk.2) (.slice Ao36 t243.length co36)) (fun _ hk => hk.2) (.slice Ao37 t246.length co37)) (fun _ hk => ⟨hk.1.1.1.2, ⟨hk.1.1.2, ⟨hk.1.1.1.1.1, ⟨hk.1.1.1.1.2, hk.1.2⟩⟩⟩⟩)⟩, ⟨by (with_reducible repeat (first | apply Kd.R_alloc | apply Kd.R_drewN | apply Kd.R_drew)); exact Kd.R_mono (Kd.R_far (p := ⟨gb251, 2, none⟩) (Kd.R_far (p := ⟨gb251, 1, none⟩) (Kd.R_far (p := ⟨gb251, 0, none⟩) (Kd.R_types HO245.out BK251.out (by decide)) (fun _ hk => hk.2) (.int .i64 t242)) (fun _ hk => hk.2) (.slice Ao36 t243.length co36)) (fun _ hk => hk.2) (.slice Ao37 t246.length co37)) (fun _ hk => trivial)⟩, ⟨by (with_reducible repeat (first | apply Kd.R_alloc | apply Kd.R_drewN | apply Kd.R_drew)); exact Kd.R_mono (Kd.R_far (p := ⟨gb251, 2, none⟩) (Kd.R_far (p := ⟨gb251, 1, none⟩) (Kd.R_far (p := ⟨gb251, 0, none⟩) (Kd.R_mono HO248.out (fun k_ hk => (⟨hk, hk.2⟩ : _ ∧ k_ ≠ gb251))) (fun _ hk => hk.2) (.int .i64 t242)) (fun _ hk => hk.2) (.slice Ao36 t243.length co36)) (fun _ hk => hk.2) (.slice Ao37 t246.length co37)) (fun _ hk => ⟨hk.1.1.1.1.2, ⟨hk.1.1.1.1.1, ⟨hk.1.1.1.2, ⟨hk.1.1.2, hk.1.2⟩⟩⟩⟩)⟩, ⟨by (with_reducible repeat (first | refine blk_drewN ?_ _ | refine blk_drew ?_ | refine blk_alloc ?_ _)); refine blk_far ?_ NB227_251.out _; (with_reducible repeat (first | refine blk_drewN ?_ _ | refine blk_drew ?_ | refine blk_alloc ?_ _)); refine blk_far ?_ NB227_251.out _; (with_reducible repeat (first | refine blk_drewN ?_ _ | refine blk_drew ?_ | refine blk_alloc ?_ _)); refine blk_far ?_ NB227_251.out _; (with_reducible repeat (first | refine blk_drewN ?_ _ | refine blk_drew ?_ | refine blk_alloc ?_ _)); exact BK227.out⟩, ⟨by (with_reducible repeat (first | refine blk_drewN ?_ _ | refine blk_drew ?_ | refine blk_alloc ?_ _)); refine blk_far ?_ NB232_251.out _; (with_reducible repeat (first | refine blk_drewN ?_ _ | refine blk_drew ?_ | refine blk_alloc ?_ _)); refine blk_far ?_ NB232_251.out _; (with_reducible repeat (first | refine blk_drewN ?_ _ | refine blk_drew ?_ | refine blk_alloc ?_ _)); refine blk_far ?_ NB232_251.out _; (with_reducible repeat (first | refine blk_drewN ?_ _ | refine blk_drew ?_ | refine blk_alloc ?_ _)); exact BK232.out⟩, ⟨by (with_reducible repeat (first | refine blk_drewN ?_ _ | refine blk_drew ?_ | refine blk_alloc ?_ _)); refine blk_put (cs := #[.int .i64 t242, .slice Ao36 t243.length co36, .slice none 0 0]) ?_ 2 _ rfl; (with_reducible repeat (first | refine blk_drewN ?_ _ | refine blk_drew ?_ | refine blk_alloc ?_ _)); refine blk_put (cs := #[.int .i64 t242, .slice none 0 0, .slice none 0 0]) ?_ 1 _ rfl; (with_reducible repeat (first | refine blk_drewN ?_ _ | refine blk_drew ?_ | refine blk_alloc ?_ _)); refine blk_put (cs := #[.int .i64 0, .slice none 0 0, .slice none 0 0]) ?_ 0 _ rfl; (with_reducible repeat (first | refine blk_drewN ?_ _ | refine blk_drew ?_ | refine blk_alloc ?_ _)); exact BK251.out⟩, ⟨by repeat (first | (with_reducible first | exact HB.out | apply below_alloc | apply pw_below_drewN | apply below_drew1 | refine below_set ?_ GE227.out | refine below_set ?_ GE232.out | refine below_set ?_ GE251.out) | exact HB.out)⟩⟩
             ·rw [if_neg c38] at H
              have c38b0 : (t250 == 3) = false := beq_eq_false_iff_ne.mpr c38
              have c38b1 : (t250 != 3) = true := bne_iff_ne.mpr c38
              (first | rw [c38b0] | (simp only [i64_w, i32_w]; rw [c38b0]) | skip)
              have H' := Aside0.mk H
              clear H
              go_wp2
              go_meet
              case rel => exact ⟨_, (false), (by first | rfl | (simp; done) | (simp [*]; done)), H', ⟨by have := HK1.out; first | omega | exact Nat.le_refl _⟩, ⟨by (with_reducible repeat (first | apply Kd.R_alloc | apply Kd.R_drewN | apply Kd.R_drew)); exact Kd.R_mono (Kd.R_far (p := ⟨gb251, 2, none⟩) (Kd.R_far (p := ⟨gb251, 1, none⟩) (Kd.R_far (p := ⟨gb251, 0, none⟩) (Kd.R_mono HO_233002.out (fun k_ hk => (⟨hk, hk.2⟩ : _ ∧ k_ ≠ gb251))) (fun _ hk => hk.2) (.int .i64 t242)) (fun _ hk => hk.2) (.slice Ao36 t243.length co36)) (fun _ hk => hk.2) (.slice Ao37 t246.length co37)) (fun _ hk => ⟨hk.1.1.1.2, ⟨hk.1.1.2, ⟨hk.1.1.1.1.1, ⟨hk.1.1.1.1.2, hk.1.2⟩⟩⟩⟩)⟩, ⟨by (with_reducible repeat (first | apply Kd.R_alloc | apply Kd.R_drewN | apply Kd.R_drew)); exact Kd.R_mono (Kd.R_far (p := ⟨gb251, 2, none⟩) (Kd.R_far (p := ⟨gb251, 1, none⟩) (Kd.R_far (p := ⟨gb251, 0, none⟩) (Kd.R_types HO245.out BK251.out (by decide)) (fun _ hk => hk.2) (.int .i64 t242)) (fun _ hk => hk.2) (.slice Ao36 t243.length co36)) (fun _ hk => hk.2) (.slice Ao37 t246.length co37)) (fun _ hk => trivial)⟩, ⟨by (with_reducible repeat (first | apply Kd.R_alloc | apply Kd.R_drewN | apply Kd.R_drew)); exact Kd.R_mono (Kd.R_far (p := ⟨gb251, 2, none⟩) (Kd.R_far (p := ⟨gb251, 1, none⟩) (Kd.R_far (p := ⟨gb251, 0, none⟩) (Kd.R_mono HO248.out (fun k_ hk => (⟨hk, hk.2⟩ : _ ∧ k_ ≠ gb251))) (fun _ hk => hk.2) (.int .i64 t242)) (fun _ hk => hk.2) (.slice Ao36 t243.length co36)) (fun _ hk => hk.2) (.slice Ao37 t246.length co37)) (fun _ hk => ⟨hk.1.1.1.1.2, ⟨hk.1.1.1.1.1, ⟨hk.1.1.1.2, ⟨hk.1.1.2, hk.1.2⟩⟩⟩⟩)⟩, ⟨by (with_reducible repeat (first | refine blk_drewN ?_ _ | refine blk_drew ?_ | refine blk_alloc ?_ _)); refine blk_far ?_ NB227_251.out _; (with_reducible repeat (first | refine blk_drewN ?_ _ | refine blk_drew ?_ | refine blk_alloc ?_ _)); refine blk_far ?_ NB227_251.out _; (with_reducible repeat (first | refine blk_drewN ?_ _ | refine blk_drew ?_ | refine blk_alloc ?_ _)); refine blk_far ?_ NB227_251.out _; (with_reducible repeat (first | refine blk_drewN ?_ _ | refine blk_drew ?_ | refine blk_alloc ?_ _)); exact BK227.out⟩, ⟨by (with_reducible repeat (first | refine blk_drewN ?_ _ | refine blk_drew ?_ | refine blk_alloc ?_ _)); refine blk_far ?_ NB232_251.out _; (with_reducible repeat (first | refine blk_drewN ?_ _ | refine blk_drew ?_ | refine blk_alloc ?_ _)); refine blk_far ?_ NB232_251.out _; (with_reducible repeat (first | refine blk_drewN ?_ _ | refine blk_drew ?_ | refine blk_alloc ?_ _)); refine blk_far ?_ NB232_251.out _; (with_reducible repeat (first | refine blk_drewN ?_ _ | refine blk_drew ?_ | refine blk_alloc ?_ _)); exact BK232.out⟩, ⟨by (with_reducible repeat (first | refine blk_drewN ?_ _ | refine blk_drew ?_ | refine blk_alloc ?_ _)); refine blk_put (cs := #[.int .i64 t242, .slice Ao36 t243.length co36, .slice none 0 0]) ?_ 2 _ rfl; (with_reducible repeat (first | refine blk_drewN ?_ _ | refine blk_drew ?_ | refine blk_alloc ?_ _)); refine blk_put (cs := #[.int .i64 t242, .slice none 0 0, .slice none 0 0]) ?_ 1 _ rfl; (with_reducible repeat (first | refine blk_drewN ?_ _ | refine blk_drew ?_ | refine blk_alloc ?_ _)); refine blk_put (cs := #[.int .i64 0, .slice none 0 0, .slice none 0 0]) ?_ 0 _ rfl; (with_reducible repeat (first | refine blk_drewN ?_ _ | refine blk_drew ?_ | refine blk_alloc ?_ _)); exact BK251.out⟩, ⟨by repeat (first | (with_reducible first | exact HB.out | apply below_alloc | apply pw_below_drewN | apply below_drew1 | refine below_set ?_ GE227.out | refine below_set ?_ GE232.out | refine below_set ?_ GE251.out) | exact HB.out)⟩⟩
            case rest =>
             clear HC29
             try clear c1
             try clear c2
             try clear p2
             try clear q2
             try clear hx2
             try clear c3
             try clear c4
             try clear c5
             try clear c6
             try clear c6b0
             try clear c6b1
             try clear p6
             try clear c7
             try clear c7b0
             try clear c8
             try clear c8b0
             try clear c13
             try clear c13b0
             try clear c16
             try clear c16b0
             try clear c17
             try clear c17b0
             try clear c19
             try clear c22
             try clear p23
             try clear q23
             try clear hx23
             try clear c24
             try clear c24b0
             try clear c26
             try clear c26b0
             try clear c26b1
             try clear c27
             try clear c27b0
             try clear c27b1
             try clear c33
             try clear c34
             try clear c38
             try clear c38b0
             try clear c38b1
             try clear hcz10_0
             try clear hcz10_1
             try clear hcz10_2
             try clear hcz12_0
             try clear hcz12_1
             try clear hcz12_2
             try clear hcz15_0
             try clear hcz15_1
             try clear hcz15_2
             try clear hcz23_0
             try clear hcz23_1
             try clear hcz23_2
             try clear hcz35_0
             try clear hcz35_1
             try clear hcz35_2
             try clear hfz10_0
             try clear hfz10_1
             try clear hfz10_2
             try clear hfz12_0
             try clear hfz12_1
             try clear hfz12_2
             try clear hfz15_0
             try clear hfz15_1
             try clear hfz15_2
             try clear hfz23_0
             try clear hfz23_1
             try clear hfz23_2
             try clear hfz35_0
             try clear hfz35_1
             try clear hfz35_2
             try clear hx231_0
             try clear p2
             try clear p23
             try clear p231
             try clear p6
             try clear q2
             try clear q23
             try clear q231
             obtain ⟨kq, x98_28, rfl, HA, HJ28, HO_233002, HO_252001, HO_252002, BK227, BK232, BK251, HB⟩ := hcut
             cases kq with
             | zero => exact absurd HA.out (by simp [lanyardref04_element.j1])
             | succ kj28 =>
              have H := HA.out
              clear HA
              simp only [lanyardref04_element.j1] at H
              by_cases c39 : x98_28 = true
              ·subst c39
               have H1 : (if 2 = 0 then (if x233002_1.length < 2513169434916 then (lanyardref04_element.l0 kj28 l0 a2 a3 t228 t229 t249 (wrap64 (rd l0 a1)) (x233002_1 ++ [(⟨t242, t243, t246⟩ : S25)])) else (none)) else (some (0, ([] : List Int), ([] : List (S25)), 0, 2))) = some (r1, r2, r3, r4, r5) := by rw [if_pos rfl] at H; exact H
               clear H
               have H := H1
               clear H1
               by_cases c40 : 2 = 0
               ·rw [if_pos c40] at H
                have c40b0 : (2 == 0) = true := beq_iff_eq.mpr c40
                have c40b1 : (2 != 0) = false := bne_eq_false_iff_eq.mpr c40
                clear c40
                by_cases c41 : x233002_1.length < 2513169434916
                ·rw [if_pos c41] at H
                 have LMc41 := Aside0.mk c41
                 clear c41
                 obtain ⟨y252, hy252⟩ : ∃ y_ : List (S25), y_ = (x233002_1 ++ [(⟨t242, t243, t246⟩ : S25)]) := ⟨_, rfl⟩
                 replace H : (lanyardref04_element.l0 kj28 l0 a2 a3 t228 t229 t249 (wrap64 (rd l0 a1)) y252) = some (r1, r2, r3, r4, r5) := by first | (rw [hy252]; with_reducible exact H) | (have H2_ := (Option.bind_some _ _).symm.trans H; rw [hy252]; with_reducible exact H2_) | (have H2_ := (Option.bind_some _ _).symm.trans H; with_reducible exact H2_) | with_reducible exact H | (rw [hy252]; exact H) | exact H
                 have Ny252 := Aside0.mk hy252
                 clear hy252
                 have H' := Aside0.mk H
                 clear H
                 have hnb42 := NB232_227.out
                 have hnc42 := NB227_232.out
                 have hnb43 := NB232_251.out
                 have hnc43 := NB251_232.out
                 have hcz44_0 : wc.cell? ⟨gb232, 0, none⟩ = some (.int .i64 (wrap64 (rd l0 a1))) := (blk_cell BK232.out 0).trans rfl
                 have hcz44_1 : wc.cell? ⟨gb232, 1, none⟩ = some (.slice none 0 0) := (blk_cell BK232.out 1).trans rfl
                 have hcz44_2 : wc.cell? ⟨gb232, 2, none⟩ = some (u233002) := (blk_cell BK232.out 2).trans rfl
                 have hfz44_0 := blk_frozen BK232.out 0
                 have hfz44_1 := blk_frozen BK232.out 1
                 have hfz44_2 := blk_frozen BK232.out 2
                 have hnb45 := NB251_227.out
                 have hnc45 := NB227_251.out
                 have hcz46_0 : wc.cell? ⟨gb251, 0, none⟩ = some (.int .i64 t242) := (blk_cell BK251.out 0).trans rfl
                 have hcz46_1 : wc.cell? ⟨gb251, 1, none⟩ = some (.slice Ao36 t243.length co36) := (blk_cell BK251.out 1).trans rfl
                 have hcz46_2 : wc.cell? ⟨gb251, 2, none⟩ = some (.slice Ao37 t246.length co37) := (blk_cell BK251.out 2).trans rfl
                 have hfz46_0 := blk_frozen BK251.out 0
                 have hfz46_1 := blk_frozen BK251.out 1
                 have hfz46_2 := blk_frozen BK251.out 2
                 go_wp2_with (first | ((with_reducible refine gate_builtin (b := .append) (xs := #[.tmp 104, .tmp 106]) rfl ?_); at_builtin; refine Kd.R_append k25 (w0 := w) w.heap.size rfl (.tmp 104) (.tmp 106) 23 25 (.agg #[(.int .i64 0), (.slice none 0 0), (.slice none 0 0)]) 56 rfl Try.underlying23 info25 rfl (by decide) (by omega) u233002 x233002_1 (⟨t242, t243, t246⟩ : S25) [.int .i64 t242, .slice Ao36 t243.length co36, .slice Ao37 t246.length co37] (fun k_ => k_ ≠ gb227 ∧ k_ ≠ gb232 ∧ k_ ≠ gb251) (fun k_ => ((fun k_ => k_ ≠ gb227 ∧ k_ ≠ gb232 ∧ k_ ≠ gb251)) k_ ∧ some k_ ≠ (u233002 : Value).ownBlock) rfl rfl ?aP (fun _ hk => hk) ?aF ?aO ?aB ?aS ?aL ?_; (case aP => exact k25_mkM _ _ _ (⟨t242, t243, t246⟩ : S25) (Kd.R_mono (Kd.R_types (Kd.R_types (Kd.R_types (Kd.R_apart' (HO_252001.out) (Kd.R_typed HO_233002.out) (by decide)) BK227.out (by decide)) BK232.out (by decide)) BK251.out (by decide)) (fun k_ hk => ⟨⟨hk.1.1.2, ⟨hk.1.2, hk.2⟩⟩, hk.1.1.1.2⟩)) (Kd.R_mono (HO_252002.out) (fun k_ hk => ⟨⟨hk.2.2.1, ⟨hk.2.2.2.1, hk.2.2.2.2⟩⟩, hk.1⟩))); (case aB => exact (by repeat (first | (with_reducible first | exact HB.out | apply below_alloc | apply pw_below_drewN | apply below_drew1 | refine below_set ?_ GE227.out | refine below_set ?_ GE232.out | refine below_set ?_ GE251.out) | exact HB.out))); (case aF => exact (fun k_ hk => ⟨Kd.freshB (g := gb227) (o := .cells #[.int .i64 x228000_1, .slice none 0 0, .slice none 0 0] 25 (0, 0)) (by (with_reducible repeat (first | refine blk_drewN ?_ _ | refine blk_drew ?_ | refine blk_alloc ?_ _)); exact BK227.out) k_ hk, Kd.freshB (g := gb232) (o := .cells #[.int .i64 (wrap64 (rd l0 a1)), .slice none 0 0, u233002] 25 (0, 0)) (by (with_reducible repeat (first | refine blk_drewN ?_ _ | refine blk_drew ?_ | refine blk_alloc ?_ _)); exact BK232.out) k_ hk, Kd.freshB (g := gb251) (o := .cells #[.int .i64 t242, .slice Ao36 t243.length co36, .slice Ao37 t246.length co37] 25 (0, 0)) (by (with_reducible repeat (first | refine blk_drewN ?_ _ | refine blk_drew ?_ | refine blk_alloc ?_ _)); exact BK251.out) k_ hk⟩)); (case aO => exact (by (with_reducible repeat (first | apply Kd.R_alloc | apply Kd.R_drewN | apply Kd.R_drew)); exact Kd.R_mono HO_233002.out (fun _ hk => ⟨hk.2.2.1, ⟨hk.2.2.2.1, hk.2.2.2.2⟩⟩))); (case aS => exact (below_size (by repeat (first | (with_reducible first | exact HB.out | apply below_alloc | apply pw_below_drewN | apply below_drew1 | refine below_set ?_ GE227.out | refine below_set ?_ GE232.out | refine below_set ?_ GE251.out) | exact HB.out)))); (case aL => have := LMc41.out; omega); intro v253 w47 ho hb hg hat; rw [← Ny252.out] at ho; have n0_ := Aside0.mk (blk_grown (g := gb227) (o := .cells #[.int .i64 x228000_1, .slice none 0 0, .slice none 0 0] 25 (0, 0)) (by (with_reducible repeat (first | refine blk_drewN ?_ _ | refine blk_drew ?_ | refine blk_alloc ?_ _)); exact BK227.out) hg (Kd.R_away HO_233002.out (fun _ hk => hk.2.2.1))); have n1_ := Aside0.mk (blk_grown (g := gb232) (o := .cells #[.int .i64 (wrap64 (rd l0 a1)), .slice none 0 0, u233002] 25 (0, 0)) (by (with_reducible repeat (first | refine blk_drewN ?_ _ | refine blk_drew ?_ | refine blk_alloc ?_ _)); exact BK232.out) hg (Kd.R_away HO_233002.out (fun _ hk => hk.2.2.2.1))); have n2_ := Aside0.mk (blk_grown (g := gb251) (o := .cells #[.int .i64 t242, .slice Ao36 t243.length co36, .slice Ao37 t246.length co37] 25 (0, 0)) (by (with_reducible repeat (first | refine blk_drewN ?_ _ | refine blk_drew ?_ | refine blk_alloc ?_ _)); exact BK251.out) hg (Kd.R_away HO_233002.out (fun _ hk => hk.2.2.2.2))); have n3_ := Aside0.mk (hb); have n4_ := Aside0.mk (ho); clear BK227; clear BK232; clear BK251; clear HB; clear HO_233002; clear HO_252001; clear HO_252002; have BK227 := n0_; have BK232 := n1_; have BK251 := n2_; have HB := n3_; have HO254 := n4_; clear n0_ n1_ n2_ n3_ n4_; clear ho hb hg hat; obtain ⟨Ao48, co48, eo48⟩ := Kd.R_slice HO254.out; subst eo48; have hcz49_0 : w47.cell? ⟨gb232, 0, none⟩ = some (.int .i64 (wrap64 (rd l0 a1))) := (blk_cell BK232.out 0).trans rfl; have hcz49_1 : w47.cell? ⟨gb232, 1, none⟩ = some (.slice none 0 0) := (blk_cell BK232.out 1).trans rfl; have hcz49_2 : w47.cell? ⟨gb232, 2, none⟩ = some (u233002) := (blk_cell BK232.out 2).trans rfl; have hfz49_0 := blk_frozen BK232.out 0; have hfz49_1 := blk_frozen BK232.out 1; have hfz49_2 := blk_frozen BK232.out 2))
                 all_goals
                  go_roundg kj28
                  case measure => have := HK1.out; have := HJ28.out; omega
                  case rel => exact ⟨(t249), (x228000_1), (y252), (.slice Ao48 y252.length co48), (by first | rfl | (simp; done) | (simp [*]; done)), H', ⟨by have := HK1.out; have := HJ28.out; omega⟩, ⟨by (with_reducible repeat (first | apply Kd.R_alloc | apply Kd.R_drewN | apply Kd.R_drew)); exact Kd.R_mono (Kd.R_far (p := ⟨gb232, 2, none⟩) (Kd.R_mono HO254.out (fun k_ hk => (⟨hk, hk.2.1⟩ : _ ∧ k_ ≠ gb232))) (fun _ hk => hk.2) (.slice Ao48 y252.length co48)) (fun _ hk => ⟨hk.1.1, hk.1.2.1⟩)⟩, ⟨by (with_reducible repeat (first | refine blk_drewN ?_ _ | refine blk_drew ?_ | refine blk_alloc ?_ _)); refine blk_far ?_ NB227_232.out _; (with_reducible repeat (first | refine blk_drewN ?_ _ | refine blk_drew ?_ | refine blk_alloc ?_ _)); exact BK227.out⟩, ⟨by (with_reducible repeat (first | refine blk_drewN ?_ _ | refine blk_drew ?_ | refine blk_alloc ?_ _)); refine blk_put (cs := #[.int .i64 (wrap64 (rd l0 a1)), .slice none 0 0, u233002]) ?_ 2 _ rfl; (with_reducible repeat (first | refine blk_drewN ?_ _ | refine blk_drew ?_ | refine blk_alloc ?_ _)); exact BK232.out⟩, ⟨by repeat (first | (with_reducible first | exact HB.out | apply below_alloc | apply pw_below_drewN | apply below_drew1 | refine below_set ?_ GE227.out | refine below_set ?_ GE232.out | refine below_set ?_ GE251.out) | exact HB.out)⟩⟩
                ·rw [if_neg c41] at H
                 exact absurd H (by simp)
               ·rw [if_neg c40] at H
                have c40b0 : (2 == 0) = false := beq_eq_false_iff_ne.mpr c40
                have c40b1 : (2 != 0) = true := bne_iff_ne.mpr c40
                simp only [Option.some.injEq, Prod.mk.injEq] at H
                obtain ⟨rfl, rfl, rfl, rfl, rfl⟩ := H
                have hnb50 := NB227_232.out
                have hnc50 := NB232_227.out
                have hnb51 := NB227_251.out
                have hnc51 := NB251_227.out
                have hcz52_0 : wc.cell? ⟨gb227, 0, none⟩ = some (.int .i64 x228000_1) := (blk_cell BK227.out 0).trans rfl
                have hcz52_1 : wc.cell? ⟨gb227, 1, none⟩ = some (.slice none 0 0) := (blk_cell BK227.out 1).trans rfl
                have hcz52_2 : wc.cell? ⟨gb227, 2, none⟩ = some (.slice none 0 0) := (blk_cell BK227.out 2).trans rfl
                have hfz52_0 := blk_frozen BK227.out 0
                have hfz52_1 := blk_frozen BK227.out 1
                have hfz52_2 := blk_frozen BK227.out 2
                go_wp2
                refine bodyPost_ret (results_ctt rfl _ _ gb227 25 #[.int .i64 0, .slice none 0 0, .slice none 0 0] (0, 0) _ rfl (by (with_reducible repeat (first | refine blk_drewN ?_ _ | refine blk_drew ?_ | refine blk_alloc ?_ _)); refine blk_put (cs := #[.int .i64 0, .slice none 0 0, .slice none 0 0]) ?_ 2 _ rfl; (with_reducible repeat (first | refine blk_drewN ?_ _ | refine blk_drew ?_ | refine blk_alloc ?_ _)); refine blk_put (cs := #[.int .i64 0, .slice none 0 0, .slice none 0 0]) ?_ 1 _ rfl; (with_reducible repeat (first | refine blk_drewN ?_ _ | refine blk_drew ?_ | refine blk_alloc ?_ _)); refine blk_put (cs := #[.int .i64 x228000_1, .slice none 0 0, .slice none 0 0]) ?_ 0 _ rfl; (with_reducible repeat (first | refine blk_drewN ?_ _ | refine blk_drew ?_ | refine blk_alloc ?_ _)); exact BK227.out) Try.underlying25 rfl (by kernel_rfl)) rfl ?_
                exact ⟨_, _, by first | rfl | (simp [errW_none, errW_some] <;> rfl) | (simp only [← hji25]; first | rfl | (simp [errW_none, errW_some] <;> rfl)) | (simp [*, errW_none, errW_some] <;> rfl), by first | exact Kd.R_nil _ _ _ _ _ | exact Kd.N_nil _ _ _ _ _ | exact Kd.V_nil _ _ _ _ _ | exact Kd.Q_nil _ _ _ _ _ | exact Kd.S_nil _ _ _ _ _, by first | exact Kd.R_nil _ _ _ _ _ | exact Kd.N_nil _ _ _ _ _ | exact Kd.V_nil _ _ _ _ _ | exact Kd.Q_nil _ _ _ _ _ | exact Kd.S_nil _ _ _ _ _, by repeat (first | (with_reducible first | exact HB.out | apply below_alloc | apply pw_below_drewN | apply below_drew1 | refine below_set ?_ GE227.out | refine below_set ?_ GE232.out | refine below_set ?_ GE251.out) | exact HB.out)⟩
              ·replace c39 := Bool.eq_false_iff.mpr c39
               subst c39
               have H1 : (if t250 = 0 then (if x233002_1.length < 2513169434916 then (lanyardref04_element.l0 kj28 l0 a2 a3 t228 t229 t249 (wrap64 (rd l0 a1)) (x233002_1 ++ [(⟨t242, t243, t246⟩ : S25)])) else (none)) else (some (0, ([] : List Int), ([] : List (S25)), 0, t250))) = some (r1, r2, r3, r4, r5) := by rw [if_neg (show ¬ (false = true) by decide)] at H; exact H
               clear H
               have H := H1
               clear H1
               by_cases c53 : t250 = 0
               ·rw [if_pos c53] at H
                have c53b0 : (t250 == 0) = true := beq_iff_eq.mpr c53
                have c53b1 : (t250 != 0) = false := bne_eq_false_iff_eq.mpr c53
                clear c53
                by_cases c54 : x233002_1.length < 2513169434916
                ·rw [if_pos c54] at H
                 have LMc54 := Aside0.mk c54
                 clear c54
                 obtain ⟨y255, hy255⟩ : ∃ y_ : List (S25), y_ = (x233002_1 ++ [(⟨t242, t243, t246⟩ : S25)]) := ⟨_, rfl⟩
                 replace H : (lanyardref04_element.l0 kj28 l0 a2 a3 t228 t229 t249 (wrap64 (rd l0 a1)) y255) = some (r1, r2, r3, r4, r5) := by first | (rw [hy255]; with_reducible exact H) | (have H2_ := (Option.bind_some _ _).symm.trans H; rw [hy255]; with_reducible exact H2_) | (have H2_ := (Option.bind_some _ _).symm.trans H; with_reducible exact H2_) | with_reducible exact H | (rw [hy255]; exact H) | exact H
                 have Ny255 := Aside0.mk hy255
                 clear hy255
                 have H' := Aside0.mk H
                 clear H
                 have hnb55 := NB232_227.out
                 have hnc55 := NB227_232.out
                 have hnb56 := NB232_251.out
                 have hnc56 := NB251_232.out
                 have hcz57_0 : wc.cell? ⟨gb232, 0, none⟩ = some (.int .i64 (wrap64 (rd l0 a1))) := (blk_cell BK232.out 0).trans rfl
                 have hcz57_1 : wc.cell? ⟨gb232, 1, none⟩ = some (.slice none 0 0) := (blk_cell BK232.out 1).trans rfl
                 have hcz57_2 : wc.cell? ⟨gb232, 2, none⟩ = some (u233002) := (blk_cell BK232.out 2).trans rfl
                 have hfz57_0 := blk_frozen BK232.out 0
                 have hfz57_1 := blk_frozen BK232.out 1
                 have hfz57_2 := blk_frozen BK232.out 2
                 have hnb58 := NB251_227.out
                 have hnc58 := NB227_251.out
                 have hcz59_0 : wc.cell? ⟨gb251, 0, none⟩ = some (.int .i64 t242) := (blk_cell BK251.out 0).trans rfl
                 have hcz59_1 : wc.cell? ⟨gb251, 1, none⟩ = some (.slice Ao36 t243.length co36) := (blk_cell BK251.out 1).trans rfl
                 have hcz59_2 : wc.cell? ⟨gb251, 2, none⟩ = some (.slice Ao37 t246.length co37) := (blk_cell BK251.out 2).trans rfl
                 have hfz59_0 := blk_frozen BK251.out 0
                 have hfz59_1 := blk_frozen BK251.out 1
                 have hfz59_2 := blk_frozen BK251.out 2
                 go_wp2_with (first | ((with_reducible refine gate_builtin (b := .append) (xs := #[.tmp 104, .tmp 106]) rfl ?_); at_builtin; refine Kd.R_append k25 (w0 := w) w.heap.size rfl (.tmp 104) (.tmp 106) 23 25 (.agg #[(.int .i64 0), (.slice none 0 0), (.slice none 0 0)]) 56 rfl Try.underlying23 info25 rfl (by decide) (by omega) u233002 x233002_1 (⟨t242, t243, t246⟩ : S25) [.int .i64 t242, .slice Ao36 t243.length co36, .slice Ao37 t246.length co37] (fun k_ => k_ ≠ gb227 ∧ k_ ≠ gb232 ∧ k_ ≠ gb251) (fun k_ => ((fun k_ => k_ ≠ gb227 ∧ k_ ≠ gb232 ∧ k_ ≠ gb251)) k_ ∧ some k_ ≠ (u233002 : Value).ownBlock) rfl rfl ?aP (fun _ hk => hk) ?aF ?aO ?aB ?aS ?aL ?_; (case aP => exact k25_mkM _ _ _ (⟨t242, t243, t246⟩ : S25) (Kd.R_mono (Kd.R_types (Kd.R_types (Kd.R_types (Kd.R_apart' (HO_252001.out) (Kd.R_typed HO_233002.out) (by decide)) BK227.out (by decide)) BK232.out (by decide)) BK251.out (by decide)) (fun k_ hk => ⟨⟨hk.1.1.2, ⟨hk.1.2, hk.2⟩⟩, hk.1.1.1.2⟩)) (Kd.R_mono (HO_252002.out) (fun k_ hk => ⟨⟨hk.2.2.1, ⟨hk.2.2.2.1, hk.2.2.2.2⟩⟩, hk.1⟩))); (case aB => exact (by repeat (first | (with_reducible first | exact HB.out | apply below_alloc | apply pw_below_drewN | apply below_drew1 | refine below_set ?_ GE227.out | refine below_set ?_ GE232.out | refine below_set ?_ GE251.out) | exact HB.out))); (case aF => exact (fun k_ hk => ⟨Kd.freshB (g := gb227) (o := .cells #[.int .i64 x228000_1, .slice none 0 0, .slice none 0 0] 25 (0, 0)) (by (with_reducible repeat (first | refine blk_drewN ?_ _ | refine blk_drew ?_ | refine blk_alloc ?_ _)); exact BK227.out) k_ hk, Kd.freshB (g := gb232) (o := .cells #[.int .i64 (wrap64 (rd l0 a1)), .slice none 0 0, u233002] 25 (0, 0)) (by (with_reducible repeat (first | refine blk_drewN ?_ _ | refine blk_drew ?_ | refine blk_alloc ?_ _)); exact BK232.out) k_ hk, Kd.freshB (g := gb251) (o := .cells #[.int .i64 t242, .slice Ao36 t243.length co36, .slice Ao37 t246.length co37] 25 (0, 0)) (by (with_reducible repeat (first | refine blk_drewN ?_ _ | refine blk_drew ?_ | refine blk_alloc ?_ _)); exact BK251.out) k_ hk⟩)); (case aO => exact (by (with_reducible repeat (first | apply Kd.R_alloc | apply Kd.R_drewN | apply Kd.R_drew)); exact Kd.R_mono HO_233002.out (fun _ hk => ⟨hk.2.2.1, ⟨hk.2.2.2.1, hk.2.2.2.2⟩⟩))); (case aS => exact (below_size (by repeat (first | (with_reducible first | exact HB.out | apply below_alloc | apply pw_below_drewN | apply below_drew1 | refine below_set ?_ GE227.out | refine below_set ?_ GE232.out | refine below_set ?_ GE251.out) | exact HB.out)))); (case aL => have := LMc54.out; omega); intro v256 w60 ho hb hg hat; rw [← Ny255.out] at ho; have n0_ := Aside0.mk (blk_grown (g := gb227) (o := .cells #[.int .i64 x228000_1, .slice none 0 0, .slice none 0 0] 25 (0, 0)) (by (with_reducible repeat (first | refine blk_drewN ?_ _ | refine blk_drew ?_ | refine blk_alloc ?_ _)); exact BK227.out) hg (Kd.R_away HO_233002.out (fun _ hk => hk.2.2.1))); have n1_ := Aside0.mk (blk_grown (g := gb232) (o := .cells #[.int .i64 (wrap64 (rd l0 a1)), .slice none 0 0, u233002] 25 (0, 0)) (by (with_reducible repeat (first | refine blk_drewN ?_ _ | refine blk_drew ?_ | refine blk_alloc ?_ _)); exact BK232.out) hg (Kd.R_away HO_233002.out (fun _ hk => hk.2.2.2.1))); have n2_ := Aside0.mk (blk_grown (g := gb251) (o := .cells #[.int .i64 t242, .slice Ao36 t243.length co36, .slice Ao37 t246.length co37] 25 (0, 0)) (by (with_reducible repeat (first | refine blk_drewN ?_ _ | refine blk_drew ?_ | refine blk_alloc ?_ _)); exact BK251.out) hg (Kd.R_away HO_233002.out (fun _ hk => hk.2.2.2.2))); have n3_ := Aside0.mk (hb); have n4_ := Aside0.mk (ho); clear BK227; clear BK232; clear BK251; clear HB; clear HO_233002; clear HO_252001; clear HO_252002; have BK227 := n0_; have BK232 := n1_; have BK251 := n2_; have HB := n3_; have HO257 := n4_; clear n0_ n1_ n2_ n3_ n4_; clear ho hb hg hat; obtain ⟨Ao61, co61, eo61⟩ := Kd.R_slice HO257.out; subst eo61; have hcz62_0 : w60.cell? ⟨gb232, 0, none⟩ = some (.int .i64 (wrap64 (rd l0 a1))) := (blk_cell BK232.out 0).trans rfl; have hcz62_1 : w60.cell? ⟨gb232, 1, none⟩ = some (.slice none 0 0) := (blk_cell BK232.out 1).trans rfl; have hcz62_2 : w60.cell? ⟨gb232, 2, none⟩ = some (u233002) := (blk_cell BK232.out 2).trans rfl; have hfz62_0 := blk_frozen BK232.out 0; have hfz62_1 := blk_frozen BK232.out 1; have hfz62_2 := blk_frozen BK232.out 2))
                 (try rw [← hji25])
                 go_roundg kj28
                 case measure => have := HK1.out; have := HJ28.out; omega
                 case rel => exact ⟨(t249), (x228000_1), (y255), (.slice Ao61 y255.length co61), (by first | rfl | (simp; done) | (simp [*]; done)), H', ⟨by have := HK1.out; have := HJ28.out; omega⟩, ⟨by (with_reducible repeat (first | apply Kd.R_alloc | apply Kd.R_drewN | apply Kd.R_drew)); exact Kd.R_mono (Kd.R_far (p := ⟨gb232, 2, none⟩) (Kd.R_mono HO257.out (fun k_ hk => (⟨hk, hk.2.1⟩ : _ ∧ k_ ≠ gb232))) (fun _ hk => hk.2) (.slice Ao61 y255.length co61)) (fun _ hk => ⟨hk.1.1, hk.1.2.1⟩)⟩, ⟨by (with_reducible repeat (first | refine blk_drewN ?_ _ | refine blk_drew ?_ | refine blk_alloc ?_ _)); refine blk_far ?_ NB227_232.out _; (with_reducible repeat (first | refine blk_drewN ?_ _ | refine blk_drew ?_ | refine blk_alloc ?_ _)); exact BK227.out⟩, ⟨by (with_reducible repeat (first | refine blk_drewN ?_ _ | refine blk_drew ?_ | refine blk_alloc ?_ _)); refine blk_put (cs := #[.int .i64 (wrap64 (rd l0 a1)), .slice none 0 0, u233002]) ?_ 2 _ rfl; (with_reducible repeat (first | refine blk_drewN ?_ _ | refine blk_drew ?_ | refine blk_alloc ?_ _)); exact BK232.out⟩, ⟨by repeat (first | (with_reducible first | exact HB.out | apply below_alloc | apply pw_below_drewN | apply below_drew1 | refine below_set ?_ GE227.out | refine below_set ?_ GE232.out | refine below_set ?_ GE251.out) | exact HB.out)⟩⟩
                ·rw [if_neg c54] at H
                 exact absurd H (by simp)
               ·rw [if_neg c53] at H
                have c53b0 : (t250 == 0) = false := beq_eq_false_iff_ne.mpr c53
                have c53b1 : (t250 != 0) = true := bne_iff_ne.mpr c53
                simp only [Option.some.injEq, Prod.mk.injEq] at H
                obtain ⟨rfl, rfl, rfl, rfl, rfl⟩ := H
                have hnb63 := NB227_232.out
                have hnc63 := NB232_227.out
                have hnb64 := NB227_251.out
                have hnc64 := NB251_227.out
                have hcz65_0 : wc.cell? ⟨gb227, 0, none⟩ = some (.int .i64 x228000_1) := (blk_cell BK227.out 0).trans rfl
                have hcz65_1 : wc.cell? ⟨gb227, 1, none⟩ = some (.slice none 0 0) := (blk_cell BK227.out 1).trans rfl
                have hcz65_2 : wc.cell? ⟨gb227, 2, none⟩ = some (.slice none 0 0) := (blk_cell BK227.out 2).trans rfl
                have hfz65_0 := blk_frozen BK227.out 0
                have hfz65_1 := blk_frozen BK227.out 1
                have hfz65_2 := blk_frozen BK227.out 2
                go_wp2
                refine bodyPost_ret (results_ctt rfl _ _ gb227 25 #[.int .i64 0, .slice none 0 0, .slice none 0 0] (0, 0) _ rfl (by (with_reducible repeat (first | refine blk_drewN ?_ _ | refine blk_drew ?_ | refine blk_alloc ?_ _)); refine blk_put (cs := #[.int .i64 0, .slice none 0 0, .slice none 0 0]) ?_ 2 _ rfl; (with_reducible repeat (first | refine blk_drewN ?_ _ | refine blk_drew ?_ | refine blk_alloc ?_ _)); refine blk_put (cs := #[.int .i64 0, .slice none 0 0, .slice none 0 0]) ?_ 1 _ rfl; (with_reducible repeat (first | refine blk_drewN ?_ _ | refine blk_drew ?_ | refine blk_alloc ?_ _)); refine blk_put (cs := #[.int .i64 x228000_1, .slice none 0 0, .slice none 0 0]) ?_ 0 _ rfl; (with_reducible repeat (first | refine blk_drewN ?_ _ | refine blk_drew ?_ | refine blk_alloc ?_ _)); exact BK227.out) Try.underlying25 rfl (by kernel_rfl)) rfl ?_
                exact ⟨_, _, by first | rfl | (simp [errW_none, errW_some] <;> rfl) | (simp only [← hji25]; first | rfl | (simp [errW_none, errW_some] <;> rfl)) | (simp [*, errW_none, errW_some] <;> rfl), by first | exact Kd.R_nil _ _ _ _ _ | exact Kd.N_nil _ _ _ _ _ | exact Kd.V_nil _ _ _ _ _ | exact Kd.Q_nil _ _ _ _ _ | exact Kd.S_nil _ _ _ _ _, by first | exact Kd.R_nil _ _ _ _ _ | exact Kd.N_nil _ _ _ _ _ | exact Kd.V_nil _ _ _ _ _ | exact Kd.Q_nil _ _ _ _ _ | exact Kd.S_nil _ _ _ _ _, by repeat (first | (with_reducible first | exact HB.out | apply below_alloc | apply pw_below_drewN | apply below_drew1 | refine below_set ?_ GE227.out | refine below_set ?_ GE232.out | refine below_set ?_ GE251.out) | exact HB.out)⟩
           ·rw [if_neg c27] at H
            exact absurd H (by simp)
          ·rw [if_neg c26] at H
           exact absurd H (by simp)
         ·rw [if_neg c24] at H
          have c24b0 : decide (x15_1 < (wrap64 (t228 + t229))) = false := decide_eq_false c24
          clear c24
          simp only [Option.some.injEq, Prod.mk.injEq] at H
          obtain ⟨rfl, rfl, rfl, rfl, rfl⟩ := H
          have hnb66 := NB232_227.out
          have hnc66 := NB227_232.out
          have hcz67_0 : wr.cell? ⟨gb232, 0, none⟩ = some (.int .i64 (wrap64 (rd l0 a1))) := (blk_cell BK232.out 0).trans rfl
          have hcz67_1 : wr.cell? ⟨gb232, 1, none⟩ = some (.slice none 0 0) := (blk_cell BK232.out 1).trans rfl
          have hcz67_2 : wr.cell? ⟨gb232, 2, none⟩ = some (u233002) := (blk_cell BK232.out 2).trans rfl
          have hfz67_0 := blk_frozen BK232.out 0
          have hfz67_1 := blk_frozen BK232.out 1
          have hfz67_2 := blk_frozen BK232.out 2
          have hcz68_0 : wr.cell? ⟨gb227, 0, none⟩ = some (.int .i64 x228000_1) := (blk_cell BK227.out 0).trans rfl
          have hcz68_1 : wr.cell? ⟨gb227, 1, none⟩ = some (.slice none 0 0) := (blk_cell BK227.out 1).trans rfl
          have hcz68_2 : wr.cell? ⟨gb227, 2, none⟩ = some (.slice none 0 0) := (blk_cell BK227.out 2).trans rfl
          have hfz68_0 := blk_frozen BK227.out 0
          have hfz68_1 := blk_frozen BK227.out 1
          have hfz68_2 := blk_frozen BK227.out 2
          obtain ⟨Ao69, co69, eo69⟩ := Kd.R_slice HO_233002.out
          subst eo69
          go_wp2
          refine bodyPost_ret (results_ctt rfl _ _ gb227 25 #[.int .i64 (wrap64 (rd l0 a1)), .slice none 0 0, .slice Ao69 x233002_1.length co69] (0, 0) _ rfl (by (with_reducible repeat (first | refine blk_drewN ?_ _ | refine blk_drew ?_ | refine blk_alloc ?_ _)); refine blk_put (cs := #[.int .i64 (wrap64 (rd l0 a1)), .slice none 0 0, .slice none 0 0]) ?_ 2 _ rfl; (with_reducible repeat (first | refine blk_drewN ?_ _ | refine blk_drew ?_ | refine blk_alloc ?_ _)); refine blk_put (cs := #[.int .i64 (wrap64 (rd l0 a1)), .slice none 0 0, .slice none 0 0]) ?_ 1 _ rfl; (with_reducible repeat (first | refine blk_drewN ?_ _ | refine blk_drew ?_ | refine blk_alloc ?_ _)); refine blk_put (cs := #[.int .i64 x228000_1, .slice none 0 0, .slice none 0 0]) ?_ 0 _ rfl; (with_reducible repeat (first | refine blk_drewN ?_ _ | refine blk_drew ?_ | refine blk_alloc ?_ _)); exact BK227.out) Try.underlying25 rfl (by kernel_rfl)) rfl ?_
          exact ⟨_, _, by first | rfl | (simp [errW_none, errW_some] <;> rfl) | (simp [*, errW_none, errW_some] <;> rfl), by first | exact Kd.R_nil _ _ _ _ _ | exact Kd.N_nil _ _ _ _ _ | exact Kd.V_nil _ _ _ _ _ | exact Kd.Q_nil _ _ _ _ _ | exact Kd.S_nil _ _ _ _ _, by (with_reducible repeat (first | apply Kd.R_alloc | apply Kd.R_drewN | apply Kd.R_drew)); exact Kd.R_mono (Kd.R_far (p := ⟨gb227, 2, none⟩) (Kd.R_far (p := ⟨gb227, 1, none⟩) (Kd.R_far (p := ⟨gb227, 0, none⟩) (Kd.R_mono HO_233002.out (fun k_ hk => (⟨hk, hk.1⟩ : _ ∧ k_ ≠ gb227))) (fun _ hk => hk.2) (.int .i64 (wrap64 (rd l0 a1)))) (fun _ hk => hk.2) (.slice none 0 0)) (fun _ hk => hk.2) (.slice Ao69 x233002_1.length co69)) (fun _ hk => (by simp [Value.ownBlock])), by repeat (first | (with_reducible first | exact HB.out | apply below_alloc | apply pw_below_drewN | apply below_drew1 | refine below_set ?_ GE227.out | refine below_set ?_ GE232.out) | exact HB.out)⟩
      ·replace c19 := Bool.eq_false_iff.mpr c19
       subst c19
       have H1 : ((some (([] : List Int) : List Int)).bind fun y234 => (if 0 ≤ t228 then (if t228 ≤ (wrap64 (t228 + t229)) then (if (wrap64 (t228 + t229)) ≤ (l0.length : Int) then (if y234.length + ((l0.take ((wrap64 (t228 + t229)) : Int).toNat).drop (t228 : Int).toNat).length < 140737488355328 then (some (wrap64 (rd l0 a1), (y234 ++ ((l0.take ((wrap64 (t228 + t229)) : Int).toNat).drop (t228 : Int).toNat)), ([] : List (S25)), wrap64 (t228 + t229), 0)) else (none)) else (none)) else (none)) else (none))) = some (r1, r2, r3, r4, r5) := by rw [if_neg (show ¬ (false = true) by decide)] at H; exact H
       clear H
       have H := H1
       clear H1
       obtain ⟨y234, hy234⟩ : ∃ y_ : List Int, y_ = (([] : List Int)) := ⟨_, rfl⟩
       replace H : (if 0 ≤ t228 then (if t228 ≤ (wrap64 (t228 + t229)) then (if (wrap64 (t228 + t229)) ≤ (l0.length : Int) then (if y234.length + ((l0.take ((wrap64 (t228 + t229)) : Int).toNat).drop (t228 : Int).toNat).length < 140737488355328 then (some (wrap64 (rd l0 a1), (y234 ++ ((l0.take ((wrap64 (t228 + t229)) : Int).toNat).drop (t228 : Int).toNat)), ([] : List (S25)), wrap64 (t228 + t229), 0)) else (none)) else (none)) else (none)) else (none)) = some (r1, r2, r3, r4, r5) := by first | (rw [hy234]; with_reducible exact H) | (have H2_ := (Option.bind_some _ _).symm.trans H; rw [hy234]; with_reducible exact H2_) | (have H2_ := (Option.bind_some _ _).symm.trans H; with_reducible exact H2_) | with_reducible exact H | (rw [hy234]; exact H) | exact H
       have Ny234 := Aside0.mk hy234
       clear hy234
       by_cases c70 : 0 ≤ t228
       ·rw [if_pos c70] at H
        have c70b0 := eq_true c70
        have c70b1 : decide (0 ≤ t228) = true := decide_eq_true c70
        clear c70
        by_cases c71 : t228 ≤ (wrap64 (t228 + t229))
        ·rw [if_pos c71] at H
         have c71b0 := eq_true c71
         have c71b1 : decide (t228 ≤ (wrap64 (t228 + t229))) = true := decide_eq_true c71
         by_cases c72 : (wrap64 (t228 + t229)) ≤ (l0.length : Int)
         ·rw [if_pos c72] at H
          have c72b0 := eq_true c72
          have c72b1 : decide ((wrap64 (t228 + t229)) ≤ (l0.length : Int)) = true := decide_eq_true c72
          by_cases c73 : y234.length + ((l0.take ((wrap64 (t228 + t229)) : Int).toNat).drop (t228 : Int).toNat).length < 140737488355328
          ·rw [if_pos c73] at H
           have LMc73 := Aside0.mk c73
           clear c73
           obtain ⟨y238, hy238⟩ : ∃ y_ : List Int, y_ = (y234 ++ ((l0.take ((wrap64 (t228 + t229)) : Int).toNat).drop (t228 : Int).toNat)) := ⟨_, rfl⟩
           replace H : (some (wrap64 (rd l0 a1), y238, ([] : List (S25)), wrap64 (t228 + t229), 0)) = some (r1, r2, r3, r4, r5) := by first | (rw [hy238]; with_reducible exact H) | (have H2_ := (Option.bind_some _ _).symm.trans H; rw [hy238]; with_reducible exact H2_) | (have H2_ := (Option.bind_some _ _).symm.trans H; with_reducible exact H2_) | with_reducible exact H | (rw [hy238]; exact H) | exact H
           have Ny238 := Aside0.mk hy238
           clear hy238
           simp only [Option.some.injEq, Prod.mk.injEq] at H
           obtain ⟨rfl, rfl, rfl, rfl, rfl⟩ := H
           go_enter Try.func44, Try.ntmps44
           go_wp2_with (first | ((with_reducible refine gate_dst (N := 8) rfl ?_); refine box_event ?hg (N := 8) ?hd (cs := #[.int .i64 0, .slice none 0 0, .slice none 0 0]) (t := 25) ?hr ?_; (case hd => rfl); (case hg => rfl); (case hr => first | (go_simp; done) | (go_simp; rfl)); intro gb227 hg w74 hbox hb; have n0_ := Aside0.mk (below_step (by repeat (first | (with_reducible first | exact HB.out | apply below_alloc | apply pw_below_drewN | apply below_drew1) | exact HB.out)) hb); have n1_ := Aside0.mk (hbox); have n2_ := Aside0.mk ((by rw [hg]; exact (below_size (by repeat (first | (with_reducible first | exact HB.out | apply below_alloc | apply pw_below_drewN | apply below_drew1) | exact HB.out))) : w.heap.size ≤ gb227)); have n3_ := Aside0.mk ((by rw [hg]; exact (below_size (by repeat (first | (with_reducible first | exact HB.out | apply below_alloc | apply pw_below_drewN | apply below_drew1) | exact HB.out))) : w.heap.size ≤ gb227)); clear HB; have HB := n0_; have BK227 := n1_; have GW227 := n2_; have GE227 := n3_; clear n0_ n1_ n2_ n3_; clear hb hbox hg) | ((with_reducible refine gate_callee (f := 56) rfl ?_); refine goesL_ (some 23) rfl rfl Try.func56 (by kernel_rfl) rfl #[.slice A0 l0.length c0, .int .i64 a1, .int .i64 a2] rfl (by (try simp only [List.map_toArray, List.map_cons, List.map_nil]); first | done | rfl | (simp only [List.length_drop, List.length_take]; rfl)) ?_; (with_reducible refine (lanyardref04_head.calls k _ _ l0 a1 a2 t228 t229 t230 _ ?side1 ?side2 A5.out).mono ?_); (case side1 => repeat (first | exact (Kd.C_below HR0.out HB.out) | (with_reducible refine Kd.C_alloc ?_ _) | (with_reducible refine Kd.C_drewN ?_ _) | (with_reducible refine Kd.C_drew ?_))); (case side2 => exact HC0.out); rintro e w' ⟨rfl, ⟨nd, rfl⟩⟩; refine ⟨_, rfl, ?_⟩; (try (rw [drewN_self w74]; generalize hq_ : World.drewN w74 _ = w74; have n0_ : Aside0 (w74.heap[gb227]? = some (.cells #[.int .i64 0, .slice none 0 0, .slice none 0 0] 25 (0, 0))) := ⟨by rw [← hq_]; exact (by (with_reducible repeat (first | refine blk_drewN ?_ _ | refine blk_drew ?_ | refine blk_alloc ?_ _)); exact BK227.out)⟩; have n1_ : Aside0 (Below w.heap.size w w74) := ⟨by rw [← hq_]; exact (by repeat (first | (with_reducible first | exact HB.out | apply below_alloc | apply pw_below_drewN | apply below_drew1 | refine below_set ?_ GE227.out) | exact HB.out))⟩; clear BK227 HB hq_; have BK227 := n0_; have HB := n1_; clear n0_ n1_)); have p231 : 0 ≤ (a1 : Int) := of_decide_eq_true (by first | (with_reducible assumption) | assumption); have q231 : a1 < (l0.length : Int) := of_decide_eq_true (by first | (with_reducible assumption) | assumption); obtain ⟨ad231, e231, hx231_0⟩ := Kd.at_int HR0.out a1 p231 q231; cases e231; replace hx231_0 := (HB.out.cell (World.block_lt_of_cell? w _ hx231_0)).trans hx231_0; replace p231 := eq_true p231; replace q231 := eq_true q231) | ((with_reducible refine gate_dst (N := 14) rfl ?_); refine box_event ?hg (N := 14) ?hd (cs := #[.int .i64 0, .slice none 0 0, .slice none 0 0]) (t := 25) ?hr ?_; (case hd => rfl); (case hg => rfl); (case hr => first | (go_simp; done) | (go_simp; rfl)); intro gb232 hg w75 hbox hb; have n0_ := Aside0.mk (blk_below (g := gb227) (o := .cells #[.int .i64 0, .slice none 0 0, .slice none 0 0] 25 (0, 0)) (by (with_reducible repeat (first | refine blk_drewN ?_ _ | refine blk_drew ?_ | refine blk_alloc ?_ _)); exact BK227.out) hb); have n1_ := Aside0.mk (below_step (by repeat (first | (with_reducible first | exact HB.out | apply below_alloc | apply pw_below_drewN | apply below_drew1 | refine below_set ?_ GE227.out) | exact HB.out)) hb); have n2_ := Aside0.mk (hbox); have n3_ := Aside0.mk ((by rw [hg]; exact (below_size (by repeat (first | (with_reducible first | exact HB.out | apply below_alloc | apply pw_below_drewN | apply below_drew1 | refine below_set ?_ GE227.out) | exact HB.out))) : w.heap.size ≤ gb232)); have n4_ := Aside0.mk ((by rw [hg]; exact (below_size (by repeat (first | (with_reducible first | exact HB.out | apply below_alloc | apply pw_below_drewN | apply below_drew1 | refine below_set ?_ GE227.out) | exact HB.out))) : w.heap.size ≤ gb232)); have n5_ := Aside0.mk ((by rw [hg]; exact Nat.ne_of_lt (blk_lt (g := gb227) (o := .cells #[.int .i64 0, .slice none 0 0, .slice none 0 0] 25 (0, 0)) (by (with_reducible repeat (first | refine blk_drewN ?_ _ | refine blk_drew ?_ | refine blk_alloc ?_ _)); exact BK227.out)) : gb227 ≠ gb232)); have n6_ := Aside0.mk ((by rw [hg]; exact Nat.ne_of_gt (blk_lt (g := gb227) (o := .cells #[.int .i64 0, .slice none 0 0, .slice none 0 0] 25 (0, 0)) (by (with_reducible repeat (first | refine blk_drewN ?_ _ | refine blk_drew ?_ | refine blk_alloc ?_ _)); exact BK227.out)) : gb232 ≠ gb227)); clear BK227; clear HB; have BK227 := n0_; have HB := n1_; have BK232 := n2_; have GW232 := n3_; have GE232 := n4_; have NB227_232 := n5_; have NB232_227 := n6_; clear n0_ n1_ n2_ n3_ n4_ n5_ n6_; clear hb hbox hg; have hnb76 := NB232_227.out; have hnc76 := NB227_232.out; have hcz77_0 : w75.cell? ⟨gb232, 0, none⟩ = some (.int .i64 0) := (blk_cell BK232.out 0).trans rfl; have hcz77_1 : w75.cell? ⟨gb232, 1, none⟩ = some (.slice none 0 0) := (blk_cell BK232.out 1).trans rfl; have hcz77_2 : w75.cell? ⟨gb232, 2, none⟩ = some (.slice none 0 0) := (blk_cell BK232.out 2).trans rfl; have hfz77_0 := blk_frozen BK232.out 0; have hfz77_1 := blk_frozen BK232.out 1; have hfz77_2 := blk_frozen BK232.out 2) | ((with_reducible refine gate_callee (f := 50) rfl ?_); refine goesL_ (some 53) rfl rfl Try.func50 (by kernel_rfl) rfl #[.int .i64 (wrap64 (rd l0 a1))] rfl (by (try simp only [List.map_toArray, List.map_cons, List.map_nil]); first | done | rfl | (simp only [List.length_drop, List.length_take]; rfl)) ?_; (with_reducible refine (lanyardref04_within.calls (wrap64 (rd l0 a1)) false _ A18.out).mono ?_); rintro e w' ⟨rfl, ⟨nd, rfl⟩⟩; refine ⟨_, rfl, ?_⟩) | ((with_reducible refine gate_dst (N := 55) rfl ?_); refine Kd.R_lit (Kd.int .u8) _ 5 ?hg (N := 55) ?hd (xs := ([] : List Int)) (inner := []) (ok := fun _ => True) (okp := fun _ => True) ?hr ?hp (fun _ hk => hk) trivial (Below.refl _ _) (Nat.le_refl _) (by simp) ?_; (case hd => rfl); (case hg => rfl); (case hr => first | (go_simp; done) | (go_simp; rfl)); (case hp => exact (Reps.none _ _)); intro v235 w78 ho79 hb hg_ hnew_; clear hg_ hnew_; (first | rw [← Ny234.out] at ho79 | (simp only [Int.reduceToNat] at ho79; rw [← Ny234.out] at ho79)); have n0_ := Aside0.mk (Kd.R_lower ho79 (below_size (by repeat (first | (with_reducible first | exact HB.out | apply below_alloc | apply pw_below_drewN | apply below_drew1 | refine below_set ?_ GE227.out | refine below_set ?_ GE232.out) | exact HB.out)))); have n1_ := Aside0.mk (blk_below (g := gb227) (o := .cells #[.int .i64 0, .slice none 0 0, .slice none 0 0] 25 (0, 0)) (by (with_reducible repeat (first | refine blk_drewN ?_ _ | refine blk_drew ?_ | refine blk_alloc ?_ _)); refine blk_far ?_ NB227_232.out _; (with_reducible repeat (first | refine blk_drewN ?_ _ | refine blk_drew ?_ | refine blk_alloc ?_ _)); refine blk_far ?_ NB227_232.out _; (with_reducible repeat (first | refine blk_drewN ?_ _ | refine blk_drew ?_ | refine blk_alloc ?_ _)); refine blk_far ?_ NB227_232.out _; (with_reducible repeat (first | refine blk_drewN ?_ _ | refine blk_drew ?_ | refine blk_alloc ?_ _)); exact BK227.out) hb); have n2_ := Aside0.mk (blk_below (g := gb232) (o := .cells #[.int .i64 (wrap64 (rd l0 a1)), .slice none 0 0, .slice none 0 0] 25 (0, 0)) (by (with_reducible repeat (first | refine blk_drewN ?_ _ | refine blk_drew ?_ | refine blk_alloc ?_ _)); refine blk_put (cs := #[.int .i64 (wrap64 (rd l0 a1)), .slice none 0 0, .slice none 0 0]) ?_ 2 _ rfl; (with_reducible repeat (first | refine blk_drewN ?_ _ | refine blk_drew ?_ | refine blk_alloc ?_ _)); refine blk_put (cs := #[.int .i64 (wrap64 (rd l0 a1)), .slice none 0 0, .slice none 0 0]) ?_ 1 _ rfl; (with_reducible repeat (first | refine blk_drewN ?_ _ | refine blk_drew ?_ | refine blk_alloc ?_ _)); refine blk_put (cs := #[.int .i64 0, .slice none 0 0, .slice none 0 0]) ?_ 0 _ rfl; (with_reducible repeat (first | refine blk_drewN ?_ _ | refine blk_drew ?_ | refine blk_alloc ?_ _)); exact BK232.out) hb); have n3_ := Aside0.mk (below_step (by repeat (first | (with_reducible first | exact HB.out | apply below_alloc | apply pw_below_drewN | apply below_drew1 | refine below_set ?_ GE227.out | refine below_set ?_ GE232.out) | exact HB.out)) hb); clear BK227; clear BK232; clear HB; have HO236 := n0_; have BK227 := n1_; have BK232 := n2_; have HB := n3_; clear n0_ n1_ n2_ n3_; clear hb ho79; obtain ⟨i080, hi080, _, hsz80, _⟩ := info_parts info5; obtain ⟨A80, hcut80, hA80, hC80⟩ := print_mid_of (P := Try.prog) (Value.int .u8) 0 22 5 .i64 .i64 Try.underlying22 hi080 hsz80 (some ad231) c0 l0 t228 (wrap64 (t228 + t229)) (of_decide_eq_true (by first | (with_reducible assumption) | assumption)) (by first | omega | exact of_decide_eq_true (by first | (with_reducible assumption) | assumption)) (of_decide_eq_true (by first | (with_reducible assumption) | assumption)) HC0.out; have HR237 := Aside0.mk (Kd.C_of_reads (h1 := fun _ => rfl) (hA80 _ (Kd.reads_of_C HR0.out))); have HC237 := Aside0.mk hC80; clear hA80 hC80 hi080 hsz80) | ((with_reducible refine gate_builtin (b := .append) (xs := #[.tmp 55, .tmp 61]) rfl ?_); at_builtin; refine Kd.R_append_rows (Kd.int .u8) (w0 := w) w.heap.size rfl (.tmp 55) (.tmp 61) 22 5 (.int .u8 0) 1 rfl Try.underlying22 info5 rfl (by decide) (by omega) v235 y234 ((l0.take ((wrap64 (t228 + t229)) : Int).toNat).drop (t228 : Int).toNat) _ _ _ (fun _ => True) (fun _ => False) rfl rfl ?aO ?aR (fun _ _ h => h) (fun _ h => h.elim) ?aF ?aB ?aS ?aL ?_; (case aR => first | (rw [← show ((l0.take ((wrap64 (t228 + t229)) : Int).toNat).drop (t228 : Int).toNat).length = ((wrap64 (t228 + t229)).toNat - t228.toNat) from (by rw [List.length_drop, List.length_take]; have h_ : ((wrap64 (t228 + t229)) : Int) ≤ (l0.length : Int) := of_decide_eq_true (by first | (with_reducible assumption) | assumption); omega)]; repeat (first | exact (Kd.C_below HR237.out HB.out) | (with_reducible refine Kd.C_alloc ?_ _) | (with_reducible refine Kd.C_drewN ?_ _) | (with_reducible refine Kd.C_drew ?_))) | (repeat (first | exact (Kd.C_below HR237.out HB.out) | (with_reducible refine Kd.C_alloc ?_ _) | (with_reducible refine Kd.C_drewN ?_ _) | (with_reducible refine Kd.C_drew ?_)))); (case aB => exact (by repeat (first | (with_reducible first | exact HB.out | apply below_alloc | apply pw_below_drewN | apply below_drew1 | refine below_set ?_ GE227.out | refine below_set ?_ GE232.out) | exact HB.out))); (case aF => exact (fun _ _ => trivial)); (case aO => exact (by (with_reducible repeat (first | apply Kd.R_alloc | apply Kd.R_drewN | apply Kd.R_drew)); exact HO236.out)); (case aS => exact (below_size (by repeat (first | (with_reducible first | exact HB.out | apply below_alloc | apply pw_below_drewN | apply below_drew1 | refine below_set ?_ GE227.out | refine below_set ?_ GE232.out) | exact HB.out)))); (case aL => have := LMc73.out; have hlx_ := (show ((l0.take ((wrap64 (t228 + t229)) : Int).toNat).drop (t228 : Int).toNat).length = ((wrap64 (t228 + t229)).toNat - t228.toNat) from (by rw [List.length_drop, List.length_take]; have h_ : ((wrap64 (t228 + t229)) : Int) ≤ (l0.length : Int) := of_decide_eq_true (by first | (with_reducible assumption) | assumption); omega)); omega); intro v239 w81 ho hb hg hat; rw [← Ny238.out] at ho; have n0_ := Aside0.mk (blk_grown (g := gb227) (o := .cells #[.int .i64 0, .slice none 0 0, .slice none 0 0] 25 (0, 0)) (by (with_reducible repeat (first | refine blk_drewN ?_ _ | refine blk_drew ?_ | refine blk_alloc ?_ _)); exact BK227.out) hg (Kd.R_ne HO236.out BK227.out (by decide))); have n1_ := Aside0.mk (blk_grown (g := gb232) (o := .cells #[.int .i64 (wrap64 (rd l0 a1)), .slice none 0 0, .slice none 0 0] 25 (0, 0)) (by (with_reducible repeat (first | refine blk_drewN ?_ _ | refine blk_drew ?_ | refine blk_alloc ?_ _)); exact BK232.out) hg (Kd.R_ne HO236.out BK232.out (by decide))); have n2_ := Aside0.mk (hb); have n3_ := Aside0.mk (ho); clear BK227; clear BK232; clear HB; clear HO236; have BK227 := n0_; have BK232 := n1_; have HB := n2_; have HO240 := n3_; clear n0_ n1_ n2_ n3_; clear ho hb hg hat; obtain ⟨Ao82, co82, eo82⟩ := Kd.R_slice HO240.out; subst eo82; have hcz83_0 : w81.cell? ⟨gb232, 0, none⟩ = some (.int .i64 (wrap64 (rd l0 a1))) := (blk_cell BK232.out 0).trans rfl; have hcz83_1 : w81.cell? ⟨gb232, 1, none⟩ = some (.slice none 0 0) := (blk_cell BK232.out 1).trans rfl; have hcz83_2 : w81.cell? ⟨gb232, 2, none⟩ = some (.slice none 0 0) := (blk_cell BK232.out 2).trans rfl; have hfz83_0 := blk_frozen BK232.out 0; have hfz83_1 := blk_frozen BK232.out 1; have hfz83_2 := blk_frozen BK232.out 2; have hcz84_0 : w81.cell? ⟨gb227, 0, none⟩ = some (.int .i64 0) := (blk_cell BK227.out 0).trans rfl; have hcz84_1 : w81.cell? ⟨gb227, 1, none⟩ = some (.slice none 0 0) := (blk_cell BK227.out 1).trans rfl; have hcz84_2 : w81.cell? ⟨gb227, 2, none⟩ = some (.slice none 0 0) := (blk_cell BK227.out 2).trans rfl; have hfz84_0 := blk_frozen BK227.out 0; have hfz84_1 := blk_frozen BK227.out 1; have hfz84_2 := blk_frozen BK227.out 2))
           refine bodyPost_ret (results_ctt rfl _ _ gb227 25 #[.int .i64 (wrap64 (rd l0 a1)), .slice Ao82 y238.length co82, .slice none 0 0] (0, 0) _ rfl (by (with_reducible repeat (first | refine blk_drewN ?_ _ | refine blk_drew ?_ | refine blk_alloc ?_ _)); refine blk_put (cs := #[.int .i64 (wrap64 (rd l0 a1)), .slice Ao82 y238.length co82, .slice none 0 0]) ?_ 2 _ rfl; (with_reducible repeat (first | refine blk_drewN ?_ _ | refine blk_drew ?_ | refine blk_alloc ?_ _)); refine blk_put (cs := #[.int .i64 (wrap64 (rd l0 a1)), .slice none 0 0, .slice none 0 0]) ?_ 1 _ rfl; (with_reducible repeat (first | refine blk_drewN ?_ _ | refine blk_drew ?_ | refine blk_alloc ?_ _)); refine blk_put (cs := #[.int .i64 0, .slice none 0 0, .slice none 0 0]) ?_ 0 _ rfl; (with_reducible repeat (first | refine blk_drewN ?_ _ | refine blk_drew ?_ | refine blk_alloc ?_ _)); refine blk_far ?_ NB227_232.out _; (with_reducible repeat (first | refine blk_drewN ?_ _ | refine blk_drew ?_ | refine blk_alloc ?_ _)); exact BK227.out) Try.underlying25 rfl (by kernel_rfl)) rfl ?_
           exact ⟨_, _, by first | rfl | (simp [errW_none, errW_some] <;> rfl) | (simp [*, errW_none, errW_some] <;> rfl), by (with_reducible repeat (first | apply Kd.R_alloc | apply Kd.R_drewN | apply Kd.R_drew)); exact Kd.R_mono (Kd.R_far (p := ⟨gb227, 2, none⟩) (Kd.R_far (p := ⟨gb227, 1, none⟩) (Kd.R_far (p := ⟨gb227, 0, none⟩) (Kd.R_far (p := ⟨gb232, 1, none⟩) (Kd.R_types (Kd.R_types HO240.out BK232.out (by decide)) BK227.out (by decide)) (fun _ hk => hk.1.2) (.slice Ao82 y238.length co82)) (fun _ hk => hk.2) (.int .i64 (wrap64 (rd l0 a1)))) (fun _ hk => hk.2) (.slice Ao82 y238.length co82)) (fun _ hk => hk.2) (.slice none 0 0)) (fun _ hk => trivial), by first | exact Kd.R_nil _ _ _ _ _ | exact Kd.N_nil _ _ _ _ _ | exact Kd.V_nil _ _ _ _ _ | exact Kd.Q_nil _ _ _ _ _ | exact Kd.S_nil _ _ _ _ _, by repeat (first | (with_reducible first | exact HB.out | apply below_alloc | apply pw_below_drewN | apply below_drew1 | refine below_set ?_ GE227.out | refine below_set ?_ GE232.out) | exact HB.out)⟩
          ·rw [if_neg c73] at H
           exact absurd H (by simp)
         ·rw [if_neg c72] at H
          exact absurd H (by simp)
        ·rw [if_neg c71] at H
         exact absurd H (by simp)
       ·rw [if_neg c70] at H
        exact absurd H (by simp)
     ·rw [if_neg c17] at H
      exact absurd H (by simp)
    ·rw [if_neg c16] at H
     exact absurd H (by simp)
 ·rw [if_neg c6] at H
  have c6b0 : (t230 == 0) = false := beq_eq_false_iff_ne.mpr c6
  have c6b1 : (t230 != 0) = true := bne_iff_ne.mpr c6
  simp only [Option.some.injEq, Prod.mk.injEq] at H
  obtain ⟨rfl, rfl, rfl, rfl, rfl⟩ := H
  go_enter Try.func44, Try.ntmps44
  go_wp2_with (first | ((with_reducible refine gate_dst (N := 8) rfl ?_); refine box_event ?hg (N := 8) ?hd (cs := #[.int .i64 0, .slice none 0 0, .slice none 0 0]) (t := 25) ?hr ?_; (case hd => rfl); (case hg => rfl); (case hr => first | (go_simp; done) | (go_simp; rfl)); intro gb227 hg w85 hbox hb; have n0_ := Aside0.mk (below_step (by repeat (first | (with_reducible first | exact HB.out | apply below_alloc | apply pw_below_drewN | apply below_drew1) | exact HB.out)) hb); have n1_ := Aside0.mk (hbox); have n2_ := Aside0.mk ((by rw [hg]; exact (below_size (by repeat (first | (with_reducible first | exact HB.out | apply below_alloc | apply pw_below_drewN | apply below_drew1) | exact HB.out))) : w.heap.size ≤ gb227)); have n3_ := Aside0.mk ((by rw [hg]; exact (below_size (by repeat (first | (with_reducible first | exact HB.out | apply below_alloc | apply pw_below_drewN | apply below_drew1) | exact HB.out))) : w.heap.size ≤ gb227)); clear HB; have HB := n0_; have BK227 := n1_; have GW227 := n2_; have GE227 := n3_; clear n0_ n1_ n2_ n3_; clear hb hbox hg) | ((with_reducible refine gate_callee (f := 56) rfl ?_); refine goesL_ (some 23) rfl rfl Try.func56 (by kernel_rfl) rfl #[.slice A0 l0.length c0, .int .i64 a1, .int .i64 a2] rfl (by (try simp only [List.map_toArray, List.map_cons, List.map_nil]); first | done | rfl | (simp only [List.length_drop, List.length_take]; rfl)) ?_; (with_reducible refine (lanyardref04_head.calls k _ _ l0 a1 a2 t228 t229 t230 _ ?side1 ?side2 A5.out).mono ?_); (case side1 => repeat (first | exact (Kd.C_below HR0.out HB.out) | (with_reducible refine Kd.C_alloc ?_ _) | (with_reducible refine Kd.C_drewN ?_ _) | (with_reducible refine Kd.C_drew ?_))); (case side2 => exact HC0.out); rintro e w' ⟨rfl, ⟨nd, rfl⟩⟩; refine ⟨_, rfl, ?_⟩; (try (rw [drewN_self w85]; generalize hq_ : World.drewN w85 _ = w85; have n0_ : Aside0 (w85.heap[gb227]? = some (.cells #[.int .i64 0, .slice none 0 0, .slice none 0 0] 25 (0, 0))) := ⟨by rw [← hq_]; exact (by (with_reducible repeat (first | refine blk_drewN ?_ _ | refine blk_drew ?_ | refine blk_alloc ?_ _)); exact BK227.out)⟩; have n1_ : Aside0 (Below w.heap.size w w85) := ⟨by rw [← hq_]; exact (by repeat (first | (with_reducible first | exact HB.out | apply below_alloc | apply pw_below_drewN | apply below_drew1 | refine below_set ?_ GE227.out) | exact HB.out))⟩; clear BK227 HB hq_; have BK227 := n0_; have HB := n1_; clear n0_ n1_)); have hcz86_0 : w85.cell? ⟨gb227, 0, none⟩ = some (.int .i64 0) := (blk_cell BK227.out 0).trans rfl; have hcz86_1 : w85.cell? ⟨gb227, 1, none⟩ = some (.slice none 0 0) := (blk_cell BK227.out 1).trans rfl; have hcz86_2 : w85.cell? ⟨gb227, 2, none⟩ = some (.slice none 0 0) := (blk_cell BK227.out 2).trans rfl; have hfz86_0 := blk_frozen BK227.out 0; have hfz86_1 := blk_frozen BK227.out 1; have hfz86_2 := blk_frozen BK227.out 2))
  refine bodyPost_ret (results_ctt rfl _ _ gb227 25 #[.int .i64 0, .slice none 0 0, .slice none 0 0] (0, 0) _ rfl (by (with_reducible repeat (first | refine blk_drewN ?_ _ | refine blk_drew ?_ | refine blk_alloc ?_ _)); refine blk_put (cs := #[.int .i64 0, .slice none 0 0, .slice none 0 0]) ?_ 2 _ rfl; (with_reducible repeat (first | refine blk_drewN ?_ _ | refine blk_drew ?_ | refine blk_alloc ?_ _)); refine blk_put (cs := #[.int .i64 0, .slice none 0 0, .slice none 0 0]) ?_ 1 _ rfl; (with_reducible repeat (first | refine blk_drewN ?_ _ | refine blk_drew ?_ | refine blk_alloc ?_ _)); refine blk_put (cs := #[.int .i64 0, .slice none 0 0, .slice none 0 0]) ?_ 0 _ rfl; (with_reducible repeat (first | refine blk_drewN ?_ _ | refine blk_drew ?_ | refine blk_alloc ?_ _)); exact BK227.out) Try.underlying25 rfl (by kernel_rfl)) rfl ?_
  exact ⟨_, _, by first | rfl | (simp [errW_none, errW_some] <;> rfl) | (simp [*, errW_none, errW_some] <;> rfl), by first | exact Kd.R_nil _ _ _ _ _ | exact Kd.N_nil _ _ _ _ _ | exact Kd.V_nil _ _ _ _ _ | exact Kd.Q_nil _ _ _ _ _ | exact Kd.S_nil _ _ _ _ _, by first | exact Kd.R_nil _ _ _ _ _ | exact Kd.N_nil _ _ _ _ _ | exact Kd.V_nil _ _ _ _ _ | exact Kd.Q_nil _ _ _ _ _ | exact Kd.S_nil _ _ _ _ _, by repeat (first | (with_reducible first | exact HB.out | apply below_alloc | apply pw_below_drewN | apply below_drew1 | refine below_set ?_ GE227.out) | exact HB.out)⟩

end Go.Proofs.Ytmbgjhkemlliaaa.PT
end

/- The machine side: functions as plain Lean functions, and that the calls come to what these say; written by a program of this session (wip/tools/inc.py over the kit's printer). -/
section
namespace Go.Proofs.Ytmbgjhkemlliaaa.PT
open Go.RowKit Go.Proofs.YtmbgjhkemlliaaaW.PrintWords Go.Proofs.YtmbgjhkemlliaaaW.PrintLast Go.Proofs.YtmbgjhkemlliaaaW.PrintMore
attribute [local go_sem] max2_int min2_int max_two min_two max_three min_three max_four min_four   -- for this text's walks alone
set_option linter.unusedVariables false
set_option linter.unusedSimpArgs false

/-! ### lanyardref04_Read: function 25 -/
def lanyardref04_Read.f (k : Nat) (l0 : List Int) : Option (Int × List Int × (List (S25)) × Int) := if (l0.length : Int) > 20000 then (some (0, ([] : List Int), ([] : List (S25)), 5)) else ((lanyardref04_element.f k l0 0 (l0.length : Int) 0).bind fun bt259 => (if bt259.2.2.2.2 = 0 then (if bt259.2.2.2.1 < (l0.length : Int) then (some (0, ([] : List Int), ([] : List (S25)), 2)) else (some (bt259.1, bt259.2.1, bt259.2.2.1, 0))) else (some (0, ([] : List Int), ([] : List (S25)), bt259.2.2.2.2))))
theorem lanyardref04_Read.mono : ∀ a0 k, LeO (lanyardref04_Read.f k a0) (lanyardref04_Read.f (k + 1) a0) := by
 intro a0 k
 unfold lanyardref04_Read.f
 repeat' first
  | (with_reducible exact lanyardref04_element.mono _ _ _ _ _)
  | (with_reducible exact LeO.refl _)
  | (with_reducible exact LeO.none _)
  | (with_reducible refine LeO.ite ?_ ?_)
  | (with_reducible refine LeO.bind ?_ (fun _ => ?_))
  | exact lanyardref04_element.mono _ _ _ _ _
  | exact LeO.none _
  | refine LeO.ite ?_ ?_
  | refine LeO.bind ?_ (fun _ => ?_)
set_option maxHeartbeats 8000000 in
set_option maxRecDepth 100000 in
theorem lanyardref04_Read.calls (k : Nat) (A0 : Option Addr) (c0 : Nat) (l0 : List Int) (r1 : Int) (r2 : List Int) (r3 : List (S25)) (r4 : Int) (w : World) (hr0 : Kd.C (Kd.int .u8) w A0 l0.length l0) (hc0 : l0.length ≤ c0) (h : lanyardref04_Read.f k l0 = some (r1, r2, r3, r4)) :
 Calls Try.prog 25 #[.slice A0 l0.length c0] w fun e w' => ∃ v1_ v2_ : Value, e = .returned (.tuple #[.agg #[.int .i64 r1, v1_, v2_], .int .i64 r4]) ∧ Kd.R (Kd.int .u8) 5 w' w.heap.size (fun _ => True) v1_ r2 ∧ Kd.R k25 25 w' w.heap.size (fun k_ => some k_ ≠ (v1_ : Value).ownBlock) v2_ r3 ∧ Below w.heap.size w w' := by
 have hu25 := Try.underlying25
 have HR0 := Aside0.mk hr0
 have HC0 := Aside0.mk hc0
 clear hr0 hc0
 have HB := Aside0.mk (Below.refl w.heap.size w)
 have H : (if (l0.length : Int) > 20000 then (some (0, ([] : List Int), ([] : List (S25)), 5)) else ((lanyardref04_element.f k l0 0 (l0.length : Int) 0).bind fun bt259 => (if bt259.2.2.2.2 = 0 then (if bt259.2.2.2.1 < (l0.length : Int) then (some (0, ([] : List Int), ([] : List (S25)), 2)) else (some (bt259.1, bt259.2.1, bt259.2.2.1, 0))) else (some (0, ([] : List Int), ([] : List (S25)), bt259.2.2.2.2))))) = some (r1, r2, r3, r4) := h
 clear h
 by_cases c2 : (l0.length : Int) > 20000
 ·rw [if_pos c2] at H
  have c2b0 : decide (20000 < (l0.length : Int)) = true := decide_eq_true c2
  have c2b1 : decide (20000 < l0.length) = true := decide_eq_true (by omega)
  clear c2
  simp only [Option.some.injEq, Prod.mk.injEq] at H
  obtain ⟨rfl, rfl, rfl, rfl⟩ := H
  go_enter Try.func25, Try.ntmps25
  go_wp2_with (first | ((with_reducible refine gate_dst (N := 2) rfl ?_); refine box_event ?hg (N := 2) ?hd (cs := #[.int .i64 0, .slice none 0 0, .slice none 0 0]) (t := 25) ?hr ?_; (case hd => rfl); (case hg => rfl); (case hr => first | (go_simp; done) | (go_simp; rfl)); intro gb258 hg w3 hbox hb; have n0_ := Aside0.mk (below_step (by repeat (first | (with_reducible first | exact HB.out | apply below_alloc | apply pw_below_drewN | apply below_drew1) | exact HB.out)) hb); have n1_ := Aside0.mk (hbox); have n2_ := Aside0.mk ((by rw [hg]; exact (below_size (by repeat (first | (with_reducible first | exact HB.out | apply below_alloc | apply pw_below_drewN | apply below_drew1) | exact HB.out))) : w.heap.size ≤ gb258)); have n3_ := Aside0.mk ((by rw [hg]; exact (below_size (by repeat (first | (with_reducible first | exact HB.out | apply below_alloc | apply pw_below_drewN | apply below_drew1) | exact HB.out))) : w.heap.size ≤ gb258)); clear HB; have HB := n0_; have BK258 := n1_; have GW258 := n2_; have GE258 := n3_; clear n0_ n1_ n2_ n3_; clear hb hbox hg; have hcz4_0 : w3.cell? ⟨gb258, 0, none⟩ = some (.int .i64 0) := (blk_cell BK258.out 0).trans rfl; have hcz4_1 : w3.cell? ⟨gb258, 1, none⟩ = some (.slice none 0 0) := (blk_cell BK258.out 1).trans rfl; have hcz4_2 : w3.cell? ⟨gb258, 2, none⟩ = some (.slice none 0 0) := (blk_cell BK258.out 2).trans rfl; have hfz4_0 := blk_frozen BK258.out 0; have hfz4_1 := blk_frozen BK258.out 1; have hfz4_2 := blk_frozen BK258.out 2))
  refine bodyPost_ret (results_ct rfl _ _ gb258 25 #[.int .i64 0, .slice none 0 0, .slice none 0 0] (0, 0) _ rfl (by (with_reducible repeat (first | refine blk_drewN ?_ _ | refine blk_drew ?_ | refine blk_alloc ?_ _)); refine blk_put (cs := #[.int .i64 0, .slice none 0 0, .slice none 0 0]) ?_ 2 _ rfl; (with_reducible repeat (first | refine blk_drewN ?_ _ | refine blk_drew ?_ | refine blk_alloc ?_ _)); refine blk_put (cs := #[.int .i64 0, .slice none 0 0, .slice none 0 0]) ?_ 1 _ rfl; (with_reducible repeat (first | refine blk_drewN ?_ _ | refine blk_drew ?_ | refine blk_alloc ?_ _)); refine blk_put (cs := #[.int .i64 0, .slice none 0 0, .slice none 0 0]) ?_ 0 _ rfl; (with_reducible repeat (first | refine blk_drewN ?_ _ | refine blk_drew ?_ | refine blk_alloc ?_ _)); exact BK258.out) Try.underlying25 rfl (by kernel_rfl)) rfl ?_
  exact ⟨_, _, by first | rfl | (simp [errW_none, errW_some] <;> rfl) | (simp [*, errW_none, errW_some] <;> rfl), by first | exact Kd.R_nil _ _ _ _ _ | exact Kd.N_nil _ _ _ _ _ | exact Kd.V_nil _ _ _ _ _ | exact Kd.Q_nil _ _ _ _ _ | exact Kd.S_nil _ _ _ _ _, by first | exact Kd.R_nil _ _ _ _ _ | exact Kd.N_nil _ _ _ _ _ | exact Kd.V_nil _ _ _ _ _ | exact Kd.Q_nil _ _ _ _ _ | exact Kd.S_nil _ _ _ _ _, by repeat (first | (with_reducible first | exact HB.out | apply below_alloc | apply pw_below_drewN | apply below_drew1 | refine below_set ?_ GE258.out) | exact HB.out)⟩
 ·rw [if_neg c2] at H
  have c2b0 : decide (20000 < (l0.length : Int)) = false := decide_eq_false c2
  have c2b1 : decide (20000 < l0.length) = false := decide_eq_false (by omega)
  clear c2
  replace H := Option.bind_eq_some_iff.mp H
  obtain ⟨⟨t259, t260, t263, t266, t267⟩, A50, H⟩ := H
  replace H : (if t267 = 0 then (if t266 < (l0.length : Int) then (some (0, ([] : List Int), ([] : List (S25)), 2)) else (some (t259, t260, t263, 0))) else (some (0, ([] : List Int), ([] : List (S25)), t267))) = some (r1, r2, r3, r4) := H
  have A5 := Aside0.mk A50
  clear A50
  by_cases c6 : t267 = 0
  ·rw [if_pos c6] at H
   have c6b0 : (t267 == 0) = true := beq_iff_eq.mpr c6
   have c6b1 : (t267 != 0) = false := bne_eq_false_iff_eq.mpr c6
   clear c6
   by_cases c7 : t266 < (l0.length : Int)
   ·rw [if_pos c7] at H
    have c7b0 : decide (t266 < (l0.length : Int)) = true := decide_eq_true c7
    clear c7
    simp only [Option.some.injEq, Prod.mk.injEq] at H
    obtain ⟨rfl, rfl, rfl, rfl⟩ := H
    go_enter Try.func25, Try.ntmps25
    go_wp2_with (first | ((with_reducible refine gate_dst (N := 2) rfl ?_); refine box_event ?hg (N := 2) ?hd (cs := #[.int .i64 0, .slice none 0 0, .slice none 0 0]) (t := 25) ?hr ?_; (case hd => rfl); (case hg => rfl); (case hr => first | (go_simp; done) | (go_simp; rfl)); intro gb258 hg w8 hbox hb; have n0_ := Aside0.mk (below_step (by repeat (first | (with_reducible first | exact HB.out | apply below_alloc | apply pw_below_drewN | apply below_drew1) | exact HB.out)) hb); have n1_ := Aside0.mk (hbox); have n2_ := Aside0.mk ((by rw [hg]; exact (below_size (by repeat (first | (with_reducible first | exact HB.out | apply below_alloc | apply pw_below_drewN | apply below_drew1) | exact HB.out))) : w.heap.size ≤ gb258)); have n3_ := Aside0.mk ((by rw [hg]; exact (below_size (by repeat (first | (with_reducible first | exact HB.out | apply below_alloc | apply pw_below_drewN | apply below_drew1) | exact HB.out))) : w.heap.size ≤ gb258)); clear HB; have HB := n0_; have BK258 := n1_; have GW258 := n2_; have GE258 := n3_; clear n0_ n1_ n2_ n3_; clear hb hbox hg) | ((with_reducible refine gate_callee (f := 44) rfl ?_); refine goesL_ (some 15) rfl rfl Try.func44 (by kernel_rfl) rfl #[.slice A0 l0.length c0, .int .i64 0, .int .i64 (l0.length : Int), .int .i64 0] rfl (by (try simp only [List.map_toArray, List.map_cons, List.map_nil]); first | done | rfl | (simp only [List.length_drop, List.length_take]; rfl)) ?_; (with_reducible refine (lanyardref04_element.calls k _ _ l0 0 (l0.length : Int) 0 t259 t260 t263 t266 t267 _ ?side1 ?side2 A5.out).mono ?_); (case side1 => repeat (first | exact (Kd.C_below HR0.out HB.out) | (with_reducible refine Kd.C_alloc ?_ _) | (with_reducible refine Kd.C_drewN ?_ _) | (with_reducible refine Kd.C_drew ?_))); (case side2 => exact HC0.out); rintro e w9 ⟨v261, v264, rfl, ho0, ho1, hb⟩; refine ⟨_, rfl, ?_⟩; have n0_ := Aside0.mk (Kd.R_lower ho0 (below_size (by repeat (first | (with_reducible first | exact HB.out | apply below_alloc | apply pw_below_drewN | apply below_drew1 | refine below_set ?_ GE258.out) | exact HB.out)))); have n1_ := Aside0.mk (Kd.R_lower (Kd.R_newB ho1 (g := gb258) (o := .cells #[.int .i64 0, .slice none 0 0, .slice none 0 0] 25 (0, 0)) (by (with_reducible repeat (first | refine blk_drewN ?_ _ | refine blk_drew ?_ | refine blk_alloc ?_ _)); exact BK258.out)) (below_size (by repeat (first | (with_reducible first | exact HB.out | apply below_alloc | apply pw_below_drewN | apply below_drew1 | refine below_set ?_ GE258.out) | exact HB.out)))); have n2_ := Aside0.mk (blk_below (g := gb258) (o := .cells #[.int .i64 0, .slice none 0 0, .slice none 0 0] 25 (0, 0)) (by (with_reducible repeat (first | refine blk_drewN ?_ _ | refine blk_drew ?_ | refine blk_alloc ?_ _)); exact BK258.out) hb); have n3_ := Aside0.mk (below_step (by repeat (first | (with_reducible first | exact HB.out | apply below_alloc | apply pw_below_drewN | apply below_drew1 | refine below_set ?_ GE258.out) | exact HB.out)) hb); clear BK258; clear HB; have HO262 := n0_; have HO265 := n1_; have BK258 := n2_; have HB := n3_; clear n0_ n1_ n2_ n3_; (try clear hb); (try clear hb2); (try clear hk); (try clear hi); (try clear ho0); (try clear ho1)) | ((with_reducible refine gate_dst (N := 4) rfl ?_); refine box_event ?hg (N := 4) ?hd (cs := #[.int .i64 0, .slice none 0 0, .slice none 0 0]) (t := 25) ?hr ?_; (case hd => rfl); (case hg => rfl); (case hr => first | (go_simp; done) | (go_simp; rfl)); intro gb268 hg w10 hbox hb; have n0_ := Aside0.mk (Kd.R_below (by (with_reducible repeat (first | apply Kd.R_alloc | apply Kd.R_drewN | apply Kd.R_drew)); exact HO262.out) hb); have n1_ := Aside0.mk (Kd.R_below (Kd.R_elderB (by (with_reducible repeat (first | apply Kd.R_alloc | apply Kd.R_drewN | apply Kd.R_drew)); exact HO265.out) gb268 (Nat.le_of_eq hg.symm)) hb); have n2_ := Aside0.mk (blk_below (g := gb258) (o := .cells #[.int .i64 0, .slice none 0 0, .slice none 0 0] 25 (0, 0)) (by (with_reducible repeat (first | refine blk_drewN ?_ _ | refine blk_drew ?_ | refine blk_alloc ?_ _)); exact BK258.out) hb); have n3_ := Aside0.mk (below_step (by repeat (first | (with_reducible first | exact HB.out | apply below_alloc | apply pw_below_drewN | apply below_drew1 | refine below_set ?_ GE258.out) | exact HB.out)) hb); have n4_ := Aside0.mk (hbox); have n5_ := Aside0.mk ((by rw [hg]; exact (below_size (by repeat (first | (with_reducible first | exact HB.out | apply below_alloc | apply pw_below_drewN | apply below_drew1 | refine below_set ?_ GE258.out) | exact HB.out))) : w.heap.size ≤ gb268)); have n6_ := Aside0.mk ((by rw [hg]; exact (below_size (by repeat (first | (with_reducible first | exact HB.out | apply below_alloc | apply pw_below_drewN | apply below_drew1 | refine below_set ?_ GE258.out) | exact HB.out))) : w.heap.size ≤ gb268)); have n7_ := Aside0.mk ((by rw [hg]; exact Nat.ne_of_lt (blk_lt (g := gb258) (o := .cells #[.int .i64 0, .slice none 0 0, .slice none 0 0] 25 (0, 0)) (by (with_reducible repeat (first | refine blk_drewN ?_ _ | refine blk_drew ?_ | refine blk_alloc ?_ _)); exact BK258.out)) : gb258 ≠ gb268)); have n8_ := Aside0.mk ((by rw [hg]; exact Nat.ne_of_gt (blk_lt (g := gb258) (o := .cells #[.int .i64 0, .slice none 0 0, .slice none 0 0] 25 (0, 0)) (by (with_reducible repeat (first | refine blk_drewN ?_ _ | refine blk_drew ?_ | refine blk_alloc ?_ _)); exact BK258.out)) : gb268 ≠ gb258)); clear HO262; clear HO265; clear BK258; clear HB; have HO262 := n0_; have HO265 := n1_; have BK258 := n2_; have HB := n3_; have BK268 := n4_; have GW268 := n5_; have GE268 := n6_; have NB258_268 := n7_; have NB268_258 := n8_; clear n0_ n1_ n2_ n3_ n4_ n5_ n6_ n7_ n8_; clear hb hbox hg; have hnb11 := NB268_258.out; have hnc11 := NB258_268.out; have hcz12_0 : w10.cell? ⟨gb268, 0, none⟩ = some (.int .i64 0) := (blk_cell BK268.out 0).trans rfl; have hcz12_1 : w10.cell? ⟨gb268, 1, none⟩ = some (.slice none 0 0) := (blk_cell BK268.out 1).trans rfl; have hcz12_2 : w10.cell? ⟨gb268, 2, none⟩ = some (.slice none 0 0) := (blk_cell BK268.out 2).trans rfl; have hfz12_0 := blk_frozen BK268.out 0; have hfz12_1 := blk_frozen BK268.out 1; have hfz12_2 := blk_frozen BK268.out 2; obtain ⟨Ao13, co13, eo13⟩ := Kd.R_slice HO262.out; subst eo13; obtain ⟨Ao14, co14, eo14⟩ := Kd.R_slice HO265.out; subst eo14; have hcz15_0 : w10.cell? ⟨gb258, 0, none⟩ = some (.int .i64 0) := (blk_cell BK258.out 0).trans rfl; have hcz15_1 : w10.cell? ⟨gb258, 1, none⟩ = some (.slice none 0 0) := (blk_cell BK258.out 1).trans rfl; have hcz15_2 : w10.cell? ⟨gb258, 2, none⟩ = some (.slice none 0 0) := (blk_cell BK258.out 2).trans rfl; have hfz15_0 := blk_frozen BK258.out 0; have hfz15_1 := blk_frozen BK258.out 1; have hfz15_2 := blk_frozen BK258.out 2))
    refine bodyPost_ret (results_ct rfl _ _ gb258 25 #[.int .i64 0, .slice none 0 0, .slice none 0 0] (0, 0) _ rfl (by (with_reducible repeat (first | refine blk_drewN ?_ _ | refine blk_drew ?_ | refine blk_alloc ?_ _)); refine blk_put (cs := #[.int .i64 0, .slice none 0 0, .slice none 0 0]) ?_ 2 _ rfl; (with_reducible repeat (first | refine blk_drewN ?_ _ | refine blk_drew ?_ | refine blk_alloc ?_ _)); refine blk_put (cs := #[.int .i64 0, .slice none 0 0, .slice none 0 0]) ?_ 1 _ rfl; (with_reducible repeat (first | refine blk_drewN ?_ _ | refine blk_drew ?_ | refine blk_alloc ?_ _)); refine blk_put (cs := #[.int .i64 0, .slice none 0 0, .slice none 0 0]) ?_ 0 _ rfl; (with_reducible repeat (first | refine blk_drewN ?_ _ | refine blk_drew ?_ | refine blk_alloc ?_ _)); refine blk_far ?_ NB258_268.out _; (with_reducible repeat (first | refine blk_drewN ?_ _ | refine blk_drew ?_ | refine blk_alloc ?_ _)); refine blk_far ?_ NB258_268.out _; (with_reducible repeat (first | refine blk_drewN ?_ _ | refine blk_drew ?_ | refine blk_alloc ?_ _)); refine blk_far ?_ NB258_268.out _; (with_reducible repeat (first | refine blk_drewN ?_ _ | refine blk_drew ?_ | refine blk_alloc ?_ _)); exact BK258.out) Try.underlying25 rfl (by kernel_rfl)) rfl ?_
    exact ⟨_, _, by first | rfl | (simp [errW_none, errW_some] <;> rfl) | (simp [*, errW_none, errW_some] <;> rfl), by first | exact Kd.R_nil _ _ _ _ _ | exact Kd.N_nil _ _ _ _ _ | exact Kd.V_nil _ _ _ _ _ | exact Kd.Q_nil _ _ _ _ _ | exact Kd.S_nil _ _ _ _ _, by first | exact Kd.R_nil _ _ _ _ _ | exact Kd.N_nil _ _ _ _ _ | exact Kd.V_nil _ _ _ _ _ | exact Kd.Q_nil _ _ _ _ _ | exact Kd.S_nil _ _ _ _ _, by repeat (first | (with_reducible first | exact HB.out | apply below_alloc | apply pw_below_drewN | apply below_drew1 | refine below_set ?_ GE258.out | refine below_set ?_ GE268.out) | exact HB.out)⟩
   ·rw [if_neg c7] at H
    have c7b0 : decide (t266 < (l0.length : Int)) = false := decide_eq_false c7
    clear c7
    simp only [Option.some.injEq, Prod.mk.injEq] at H
    obtain ⟨rfl, rfl, rfl, rfl⟩ := H
    go_enter Try.func25, Try.ntmps25
    go_wp2_with (first | ((with_reducible refine gate_dst (N := 2) rfl ?_); refine box_event ?hg (N := 2) ?hd (cs := #[.int .i64 0, .slice none 0 0, .slice none 0 0]) (t := 25) ?hr ?_; (case hd => rfl); (case hg => rfl); (case hr => first | (go_simp; done) | (go_simp; rfl)); intro gb258 hg w16 hbox hb; have n0_ := Aside0.mk (below_step (by repeat (first | (with_reducible first | exact HB.out | apply below_alloc | apply pw_below_drewN | apply below_drew1) | exact HB.out)) hb); have n1_ := Aside0.mk (hbox); have n2_ := Aside0.mk ((by rw [hg]; exact (below_size (by repeat (first | (with_reducible first | exact HB.out | apply below_alloc | apply pw_below_drewN | apply below_drew1) | exact HB.out))) : w.heap.size ≤ gb258)); have n3_ := Aside0.mk ((by rw [hg]; exact (below_size (by repeat (first | (with_reducible first | exact HB.out | apply below_alloc | apply pw_below_drewN | apply below_drew1) | exact HB.out))) : w.heap.size ≤ gb258)); clear HB; have HB := n0_; have BK258 := n1_; have GW258 := n2_; have GE258 := n3_; clear n0_ n1_ n2_ n3_; clear hb hbox hg) | ((with_reducible refine gate_callee (f := 44) rfl ?_); refine goesL_ (some 15) rfl rfl Try.func44 (by kernel_rfl) rfl #[.slice A0 l0.length c0, .int .i64 0, .int .i64 (l0.length : Int), .int .i64 0] rfl (by (try simp only [List.map_toArray, List.map_cons, List.map_nil]); first | done | rfl | (simp only [List.length_drop, List.length_take]; rfl)) ?_; (with_reducible refine (lanyardref04_element.calls k _ _ l0 0 (l0.length : Int) 0 t259 t260 t263 t266 t267 _ ?side1 ?side2 A5.out).mono ?_); (case side1 => repeat (first | exact (Kd.C_below HR0.out HB.out) | (with_reducible refine Kd.C_alloc ?_ _) | (with_reducible refine Kd.C_drewN ?_ _) | (with_reducible refine Kd.C_drew ?_))); (case side2 => exact HC0.out); rintro e w17 ⟨v261, v264, rfl, ho0, ho1, hb⟩; refine ⟨_, rfl, ?_⟩; have n0_ := Aside0.mk (Kd.R_lower ho0 (below_size (by repeat (first | (with_reducible first | exact HB.out | apply below_alloc | apply pw_below_drewN | apply below_drew1 | refine below_set ?_ GE258.out) | exact HB.out)))); have n1_ := Aside0.mk (Kd.R_lower (Kd.R_newB ho1 (g := gb258) (o := .cells #[.int .i64 0, .slice none 0 0, .slice none 0 0] 25 (0, 0)) (by (with_reducible repeat (first | refine blk_drewN ?_ _ | refine blk_drew ?_ | refine blk_alloc ?_ _)); exact BK258.out)) (below_size (by repeat (first | (with_reducible first | exact HB.out | apply below_alloc | apply pw_below_drewN | apply below_drew1 | refine below_set ?_ GE258.out) | exact HB.out)))); have n2_ := Aside0.mk (blk_below (g := gb258) (o := .cells #[.int .i64 0, .slice none 0 0, .slice none 0 0] 25 (0, 0)) (by (with_reducible repeat (first | refine blk_drewN ?_ _ | refine blk_drew ?_ | refine blk_alloc ?_ _)); exact BK258.out) hb); have n3_ := Aside0.mk (below_step (by repeat (first | (with_reducible first | exact HB.out | apply below_alloc | apply pw_below_drewN | apply below_drew1 | refine below_set ?_ GE258.out) | exact HB.out)) hb); clear BK258; clear HB; have HO262 := n0_; have HO265 := n1_; have BK258 := n2_; have HB := n3_; clear n0_ n1_ n2_ n3_; (try clear hb); (try clear hb2); (try clear hk); (try clear hi); (try clear ho0); (try clear ho1)) | ((with_reducible refine gate_dst (N := 4) rfl ?_); refine box_event ?hg (N := 4) ?hd (cs := #[.int .i64 0, .slice none 0 0, .slice none 0 0]) (t := 25) ?hr ?_; (case hd => rfl); (case hg => rfl); (case hr => first | (go_simp; done) | (go_simp; rfl)); intro gb268 hg w18 hbox hb; have n0_ := Aside0.mk (Kd.R_below (by (with_reducible repeat (first | apply Kd.R_alloc | apply Kd.R_drewN | apply Kd.R_drew)); exact HO262.out) hb); have n1_ := Aside0.mk (Kd.R_below (Kd.R_elderB (by (with_reducible repeat (first | apply Kd.R_alloc | apply Kd.R_drewN | apply Kd.R_drew)); exact HO265.out) gb268 (Nat.le_of_eq hg.symm)) hb); have n2_ := Aside0.mk (blk_below (g := gb258) (o := .cells #[.int .i64 0, .slice none 0 0, .slice none 0 0] 25 (0, 0)) (by (with_reducible repeat (first | refine blk_drewN ?_ _ | refine blk_drew ?_ | refine blk_alloc ?_ _)); exact BK258.out) hb); have n3_ := Aside0.mk (below_step (by repeat (first | (with_reducible first | exact HB.out | apply below_alloc | apply pw_below_drewN | apply below_drew1 | refine below_set ?_ GE258.out) | exact HB.out)) hb); have n4_ := Aside0.mk (hbox); have n5_ := Aside0.mk ((by rw [hg]; exact (below_size (by repeat (first | (with_reducible first | exact HB.out | apply below_alloc | apply pw_below_drewN | apply below_drew1 | refine below_set ?_ GE258.out) | exact HB.out))) : w.heap.size ≤ gb268)); have n6_ := Aside0.mk ((by rw [hg]; exact (below_size (by repeat (first | (with_reducible first | exact HB.out | apply below_alloc | apply pw_below_drewN | apply below_drew1 | refine below_set ?_ GE258.out) | exact HB.out))) : w.heap.size ≤ gb268)); have n7_ := Aside0.mk ((by rw [hg]; exact Nat.ne_of_lt (blk_lt (g := gb258) (o := .cells #[.int .i64 0, .slice none 0 0, .slice none 0 0] 25 (0, 0)) (by (with_reducible repeat (first | refine blk_drewN ?_ _ | refine blk_drew ?_ | refine blk_alloc ?_ _)); exact BK258.out)) : gb258 ≠ gb268)); have n8_ := Aside0.mk ((by rw [hg]; exact Nat.ne_of_gt (blk_lt (g := gb258) (o := .cells #[.int .i64 0, .slice none 0 0, .slice none 0 0] 25 (0, 0)) (by (with_reducible repeat (first | refine blk_drewN ?_ _ | refine blk_drew ?_ | refine blk_alloc ?_ _)); exact BK258.out)) : gb268 ≠ gb258)); clear HO262; clear HO265; clear BK258; clear HB; have HO262 := n0_; have HO265 := n1_; have BK258 := n2_; have HB := n3_; have BK268 := n4_; have GW268 := n5_; have GE268 := n6_; have NB258_268 := n7_; have NB268_258 := n8_; clear n0_ n1_ n2_ n3_ n4_ n5_ n6_ n7_ n8_; clear hb hbox hg; have hnb19 := NB268_258.out; have hnc19 := NB258_268.out; have hcz20_0 : w18.cell? ⟨gb268, 0, none⟩ = some (.int .i64 0) := (blk_cell BK268.out 0).trans rfl; have hcz20_1 : w18.cell? ⟨gb268, 1, none⟩ = some (.slice none 0 0) := (blk_cell BK268.out 1).trans rfl; have hcz20_2 : w18.cell? ⟨gb268, 2, none⟩ = some (.slice none 0 0) := (blk_cell BK268.out 2).trans rfl; have hfz20_0 := blk_frozen BK268.out 0; have hfz20_1 := blk_frozen BK268.out 1; have hfz20_2 := blk_frozen BK268.out 2; obtain ⟨Ao21, co21, eo21⟩ := Kd.R_slice HO262.out; subst eo21; obtain ⟨Ao22, co22, eo22⟩ := Kd.R_slice HO265.out; subst eo22; have hcz23_0 : w18.cell? ⟨gb258, 0, none⟩ = some (.int .i64 0) := (blk_cell BK258.out 0).trans rfl; have hcz23_1 : w18.cell? ⟨gb258, 1, none⟩ = some (.slice none 0 0) := (blk_cell BK258.out 1).trans rfl; have hcz23_2 : w18.cell? ⟨gb258, 2, none⟩ = some (.slice none 0 0) := (blk_cell BK258.out 2).trans rfl; have hfz23_0 := blk_frozen BK258.out 0; have hfz23_1 := blk_frozen BK258.out 1; have hfz23_2 := blk_frozen BK258.out 2))
    refine bodyPost_ret (results_ct rfl _ _ gb258 25 #[.int .i64 t259, .slice Ao21 t260.length co21, .slice Ao22 t263.length co22] (0, 0) _ rfl (by (with_reducible repeat (first | refine blk_drewN ?_ _ | refine blk_drew ?_ | refine blk_alloc ?_ _)); refine blk_put (cs := #[.int .i64 t259, .slice Ao21 t260.length co21, .slice none 0 0]) ?_ 2 _ rfl; (with_reducible repeat (first | refine blk_drewN ?_ _ | refine blk_drew ?_ | refine blk_alloc ?_ _)); refine blk_put (cs := #[.int .i64 t259, .slice none 0 0, .slice none 0 0]) ?_ 1 _ rfl; (with_reducible repeat (first | refine blk_drewN ?_ _ | refine blk_drew ?_ | refine blk_alloc ?_ _)); refine blk_put (cs := #[.int .i64 0, .slice none 0 0, .slice none 0 0]) ?_ 0 _ rfl; (with_reducible repeat (first | refine blk_drewN ?_ _ | refine blk_drew ?_ | refine blk_alloc ?_ _)); refine blk_far ?_ NB258_268.out _; (with_reducible repeat (first | refine blk_drewN ?_ _ | refine blk_drew ?_ | refine blk_alloc ?_ _)); refine blk_far ?_ NB258_268.out _; (with_reducible repeat (first | refine blk_drewN ?_ _ | refine blk_drew ?_ | refine blk_alloc ?_ _)); refine blk_far ?_ NB258_268.out _; (with_reducible repeat (first | refine blk_drewN ?_ _ | refine blk_drew ?_ | refine blk_alloc ?_ _)); exact BK258.out) Try.underlying25 rfl (by kernel_rfl)) rfl ?_
    exact ⟨_, _, by first | rfl | (simp [errW_none, errW_some] <;> rfl) | (simp [*, errW_none, errW_some] <;> rfl), by (with_reducible repeat (first | apply Kd.R_alloc | apply Kd.R_drewN | apply Kd.R_drew)); exact Kd.R_mono (Kd.R_far (p := ⟨gb258, 2, none⟩) (Kd.R_far (p := ⟨gb258, 1, none⟩) (Kd.R_far (p := ⟨gb258, 0, none⟩) (Kd.R_far (p := ⟨gb268, 2, none⟩) (Kd.R_far (p := ⟨gb268, 1, none⟩) (Kd.R_far (p := ⟨gb268, 0, none⟩) (Kd.R_types (Kd.R_types HO262.out BK268.out (by decide)) BK258.out (by decide)) (fun _ hk => hk.1.2) (.int .i64 t259)) (fun _ hk => hk.1.2) (.slice Ao21 t260.length co21)) (fun _ hk => hk.1.2) (.slice Ao22 t263.length co22)) (fun _ hk => hk.2) (.int .i64 t259)) (fun _ hk => hk.2) (.slice Ao21 t260.length co21)) (fun _ hk => hk.2) (.slice Ao22 t263.length co22)) (fun _ hk => trivial), by (with_reducible repeat (first | apply Kd.R_alloc | apply Kd.R_drewN | apply Kd.R_drew)); exact Kd.R_mono (Kd.R_far (p := ⟨gb258, 2, none⟩) (Kd.R_far (p := ⟨gb258, 1, none⟩) (Kd.R_far (p := ⟨gb258, 0, none⟩) (Kd.R_far (p := ⟨gb268, 2, none⟩) (Kd.R_far (p := ⟨gb268, 1, none⟩) (Kd.R_far (p := ⟨gb268, 0, none⟩) (Kd.R_mono (Kd.R_mono HO265.out (fun k_ hk => (⟨hk, hk.2⟩ : _ ∧ k_ ≠ gb268))) (fun k_ hk => (⟨hk, hk.1.1.2⟩ : _ ∧ k_ ≠ gb258))) (fun _ hk => hk.1.2) (.int .i64 t259)) (fun _ hk => hk.1.2) (.slice Ao21 t260.length co21)) (fun _ hk => hk.1.2) (.slice Ao22 t263.length co22)) (fun _ hk => hk.2) (.int .i64 t259)) (fun _ hk => hk.2) (.slice Ao21 t260.length co21)) (fun _ hk => hk.2) (.slice Ao22 t263.length co22)) (fun _ hk => hk.1.1.1.1), by repeat (first | (with_reducible first | exact HB.out | apply below_alloc | apply pw_below_drewN | apply below_drew1 | refine below_set ?_ GE258.out | refine below_set ?_ GE268.out) | exact HB.out)⟩
  ·rw [if_neg c6] at H
   have c6b0 : (t267 == 0) = false := beq_eq_false_iff_ne.mpr c6
   have c6b1 : (t267 != 0) = true := bne_iff_ne.mpr c6
   simp only [Option.some.injEq, Prod.mk.injEq] at H
   obtain ⟨rfl, rfl, rfl, rfl⟩ := H
   go_enter Try.func25, Try.ntmps25
   go_wp2_with (first | ((with_reducible refine gate_dst (N := 2) rfl ?_); refine box_event ?hg (N := 2) ?hd (cs := #[.int .i64 0, .slice none 0 0, .slice none 0 0]) (t := 25) ?hr ?_; (case hd => rfl); (case hg => rfl); (case hr => first | (go_simp; done) | (go_simp; rfl)); intro gb258 hg w24 hbox hb; have n0_ := Aside0.mk (below_step (by repeat (first | (with_reducible first | exact HB.out | apply below_alloc | apply pw_below_drewN | apply below_drew1) | exact HB.out)) hb); have n1_ := Aside0.mk (hbox); have n2_ := Aside0.mk ((by rw [hg]; exact (below_size (by repeat (first | (with_reducible first | exact HB.out | apply below_alloc | apply pw_below_drewN | apply below_drew1) | exact HB.out))) : w.heap.size ≤ gb258)); have n3_ := Aside0.mk ((by rw [hg]; exact (below_size (by repeat (first | (with_reducible first | exact HB.out | apply below_alloc | apply pw_below_drewN | apply below_drew1) | exact HB.out))) : w.heap.size ≤ gb258)); clear HB; have HB := n0_; have BK258 := n1_; have GW258 := n2_; have GE258 := n3_; clear n0_ n1_ n2_ n3_; clear hb hbox hg) | ((with_reducible refine gate_callee (f := 44) rfl ?_); refine goesL_ (some 15) rfl rfl Try.func44 (by kernel_rfl) rfl #[.slice A0 l0.length c0, .int .i64 0, .int .i64 (l0.length : Int), .int .i64 0] rfl (by (try simp only [List.map_toArray, List.map_cons, List.map_nil]); first | done | rfl | (simp only [List.length_drop, List.length_take]; rfl)) ?_; (with_reducible refine (lanyardref04_element.calls k _ _ l0 0 (l0.length : Int) 0 t259 t260 t263 t266 t267 _ ?side1 ?side2 A5.out).mono ?_); (case side1 => repeat (first | exact (Kd.C_below HR0.out HB.out) | (with_reducible refine Kd.C_alloc ?_ _) | (with_reducible refine Kd.C_drewN ?_ _) | (with_reducible refine Kd.C_drew ?_))); (case side2 => exact HC0.out); rintro e w25 ⟨v261, v264, rfl, ho0, ho1, hb⟩; refine ⟨_, rfl, ?_⟩; have n0_ := Aside0.mk (Kd.R_lower ho0 (below_size (by repeat (first | (with_reducible first | exact HB.out | apply below_alloc | apply pw_below_drewN | apply below_drew1 | refine below_set ?_ GE258.out) | exact HB.out)))); have n1_ := Aside0.mk (Kd.R_lower (Kd.R_newB ho1 (g := gb258) (o := .cells #[.int .i64 0, .slice none 0 0, .slice none 0 0] 25 (0, 0)) (by (with_reducible repeat (first | refine blk_drewN ?_ _ | refine blk_drew ?_ | refine blk_alloc ?_ _)); exact BK258.out)) (below_size (by repeat (first | (with_reducible first | exact HB.out | apply below_alloc | apply pw_below_drewN | apply below_drew1 | refine below_set ?_ GE258.out) | exact HB.out)))); have n2_ := Aside0.mk (blk_below (g := gb258) (o := .cells #[.int .i64 0, .slice none 0 0, .slice none 0 0] 25 (0, 0)) (by (with_reducible repeat (first | refine blk_drewN ?_ _ | refine blk_drew ?_ | refine blk_alloc ?_ _)); exact BK258.out) hb); have n3_ := Aside0.mk (below_step (by repeat (first | (with_reducible first | exact HB.out | apply below_alloc | apply pw_below_drewN | apply below_drew1 | refine below_set ?_ GE258.out) | exact HB.out)) hb); clear BK258; clear HB; have HO262 := n0_; have HO265 := n1_; have BK258 := n2_; have HB := n3_; clear n0_ n1_ n2_ n3_; (try clear hb); (try clear hb2); (try clear hk); (try clear hi); (try clear ho0); (try clear ho1)) | ((with_reducible refine gate_dst (N := 4) rfl ?_); refine box_event ?hg (N := 4) ?hd (cs := #[.int .i64 0, .slice none 0 0, .slice none 0 0]) (t := 25) ?hr ?_; (case hd => rfl); (case hg => rfl); (case hr => first | (go_simp; done) | (go_simp; rfl)); intro gb268 hg w26 hbox hb; have n0_ := Aside0.mk (Kd.R_below (by (with_reducible repeat (first | apply Kd.R_alloc | apply Kd.R_drewN | apply Kd.R_drew)); exact HO262.out) hb); have n1_ := Aside0.mk (Kd.R_below (Kd.R_elderB (by (with_reducible repeat (first | apply Kd.R_alloc | apply Kd.R_drewN | apply Kd.R_drew)); exact HO265.out) gb268 (Nat.le_of_eq hg.symm)) hb); have n2_ := Aside0.mk (blk_below (g := gb258) (o := .cells #[.int .i64 0, .slice none 0 0, .slice none 0 0] 25 (0, 0)) (by (with_reducible repeat (first | refine blk_drewN ?_ _ | refine blk_drew ?_ | refine blk_alloc ?_ _)); exact BK258.out) hb); have n3_ := Aside0.mk (below_step (by repeat (first | (with_reducible first | exact HB.out | apply below_alloc | apply pw_below_drewN | apply below_drew1 | refine below_set ?_ GE258.out) | exact HB.out)) hb); have n4_ := Aside0.mk (hbox); have n5_ := Aside0.mk ((by rw [hg]; exact (below_size (by repeat (first | (with_reducible first | exact HB.out | apply below_alloc | apply pw_below_drewN | apply below_drew1 | refine below_set ?_ GE258.out) | exact HB.out))) : w.heap.size ≤ gb268)); have n6_ := Aside0.mk ((by rw [hg]; exact (below_size (by repeat (first | (with_reducible first | exact HB.out | apply below_alloc | apply pw_below_drewN | apply below_drew1 | refine below_set ?_ GE258.out) | exact HB.out))) : w.heap.size ≤ gb268)); have n7_ := Aside0.mk ((by rw [hg]; exact Nat.ne_of_lt (blk_lt (g := gb258) (o := .cells #[.int .i64 0, .slice none 0 0, .slice none 0 0] 25 (0, 0)) (by (with_reducible repeat (first | refine blk_drewN ?_ _ | refine blk_drew ?_ | refine blk_alloc ?_ _)); exact BK258.out)) : gb258 ≠ gb268)); have n8_ := Aside0.mk ((by rw [hg]; exact Nat.ne_of_gt (blk_lt (g := gb258) (o := .cells #[.int .i64 0, .slice none 0 0, .slice none 0 0] 25 (0, 0)) (by (with_reducible repeat (first | refine blk_drewN ?_ _ | refine blk_drew ?_ | refine blk_alloc ?_ _)); exact BK258.out)) : gb268 ≠ gb258)); clear HO262; clear HO265; clear BK258; clear HB; have HO262 := n0_; have HO265 := n1_; have BK258 := n2_; have HB := n3_; have BK268 := n4_; have GW268 := n5_; have GE268 := n6_; have NB258_268 := n7_; have NB268_258 := n8_; clear n0_ n1_ n2_ n3_ n4_ n5_ n6_ n7_ n8_; clear hb hbox hg; have hnb27 := NB268_258.out; have hnc27 := NB258_268.out; have hcz28_0 : w26.cell? ⟨gb268, 0, none⟩ = some (.int .i64 0) := (blk_cell BK268.out 0).trans rfl; have hcz28_1 : w26.cell? ⟨gb268, 1, none⟩ = some (.slice none 0 0) := (blk_cell BK268.out 1).trans rfl; have hcz28_2 : w26.cell? ⟨gb268, 2, none⟩ = some (.slice none 0 0) := (blk_cell BK268.out 2).trans rfl; have hfz28_0 := blk_frozen BK268.out 0; have hfz28_1 := blk_frozen BK268.out 1; have hfz28_2 := blk_frozen BK268.out 2; obtain ⟨Ao29, co29, eo29⟩ := Kd.R_slice HO262.out; subst eo29; obtain ⟨Ao30, co30, eo30⟩ := Kd.R_slice HO265.out; subst eo30; have hcz31_0 : w26.cell? ⟨gb258, 0, none⟩ = some (.int .i64 0) := (blk_cell BK258.out 0).trans rfl; have hcz31_1 : w26.cell? ⟨gb258, 1, none⟩ = some (.slice none 0 0) := (blk_cell BK258.out 1).trans rfl; have hcz31_2 : w26.cell? ⟨gb258, 2, none⟩ = some (.slice none 0 0) := (blk_cell BK258.out 2).trans rfl; have hfz31_0 := blk_frozen BK258.out 0; have hfz31_1 := blk_frozen BK258.out 1; have hfz31_2 := blk_frozen BK258.out 2))
   refine bodyPost_ret (results_ct rfl _ _ gb258 25 #[.int .i64 0, .slice none 0 0, .slice none 0 0] (0, 0) _ rfl (by (with_reducible repeat (first | refine blk_drewN ?_ _ | refine blk_drew ?_ | refine blk_alloc ?_ _)); refine blk_put (cs := #[.int .i64 0, .slice none 0 0, .slice none 0 0]) ?_ 2 _ rfl; (with_reducible repeat (first | refine blk_drewN ?_ _ | refine blk_drew ?_ | refine blk_alloc ?_ _)); refine blk_put (cs := #[.int .i64 0, .slice none 0 0, .slice none 0 0]) ?_ 1 _ rfl; (with_reducible repeat (first | refine blk_drewN ?_ _ | refine blk_drew ?_ | refine blk_alloc ?_ _)); refine blk_put (cs := #[.int .i64 0, .slice none 0 0, .slice none 0 0]) ?_ 0 _ rfl; (with_reducible repeat (first | refine blk_drewN ?_ _ | refine blk_drew ?_ | refine blk_alloc ?_ _)); refine blk_far ?_ NB258_268.out _; (with_reducible repeat (first | refine blk_drewN ?_ _ | refine blk_drew ?_ | refine blk_alloc ?_ _)); refine blk_far ?_ NB258_268.out _; (with_reducible repeat (first | refine blk_drewN ?_ _ | refine blk_drew ?_ | refine blk_alloc ?_ _)); refine blk_far ?_ NB258_268.out _; (with_reducible repeat (first | refine blk_drewN ?_ _ | refine blk_drew ?_ | refine blk_alloc ?_ _)); exact BK258.out) Try.underlying25 rfl (by kernel_rfl)) rfl ?_
   exact ⟨_, _, by first | rfl | (simp [errW_none, errW_some] <;> rfl) | (simp [*, errW_none, errW_some] <;> rfl), by first | exact Kd.R_nil _ _ _ _ _ | exact Kd.N_nil _ _ _ _ _ | exact Kd.V_nil _ _ _ _ _ | exact Kd.Q_nil _ _ _ _ _ | exact Kd.S_nil _ _ _ _ _, by first | exact Kd.R_nil _ _ _ _ _ | exact Kd.N_nil _ _ _ _ _ | exact Kd.V_nil _ _ _ _ _ | exact Kd.Q_nil _ _ _ _ _ | exact Kd.S_nil _ _ _ _ _, by repeat (first | (with_reducible first | exact HB.out | apply below_alloc | apply pw_below_drewN | apply below_drew1 | refine below_set ?_ GE258.out | refine below_set ?_ GE268.out) | exact HB.out)⟩

end Go.Proofs.Ytmbgjhkemlliaaa.PT
end

/- The reference's Read answers as readP says. -/
section
set_option linter.unusedVariables false
set_option linter.unusedSimpArgs false
namespace Go.Proofs.Ytmbgjhkemlliaaa.Tlv
open Go.RowKit Go.Proofs.YtmbgjhkemlliaaaW.PrintWords Go.Proofs.YtmbgjhkemlliaaaW.PrintLast Go.Proofs.YtmbgjhkemlliaaaW.PrintMore Go.Proofs.Ytmbgjhkemlliaaa.PT

theorem rd_app (pre b : List Int) (j : Nat) : rd (pre ++ b) ((pre.length : Int) + j) = b.getD j 0 := by
 unfold rd
 rw [show ((pre.length : Int) + j).toNat = pre.length + j by omega]
 simp [List.getD, List.getElem?_append_right]
def headP : List Int → Res (Int × List Int)
 | [] => .err 3
 | tag :: r => if tag % 32 = 31 then .err 2 else lenP 3 r
def outH (N : Int) : Res (Int × List Int) → Int × Int × Int
 | .err e => (0, 0, e)
 | .ok (m, r) => (N - r.length, m, 0)
theorem rhead_f (pre b : List Int) (hb : ∀ x ∈ b, 0 ≤ x ∧ x < 256) (hN : (pre ++ b).length ≤ 20000) (k : Nat) :
 lanyardref04_head.f (k + 2) (pre ++ b) (pre.length : Int) ((pre ++ b).length : Int) = some (outH ((pre ++ b).length : Int) (headP b)) := by
 have hl : ((pre ++ b).length : Int) = (pre.length : Int) + b.length := by simp
 unfold lanyardref04_head.f
 rw [if_neg (by omega), lanyardref04_head.j0]
 have r0 := rd_app pre b 0
 have r1 := rd_app pre b 1
 have r2 := rd_app pre b 2
 have r3 := rd_app pre b 3
 simp only [Int.natCast_zero, Int.add_zero] at r0
 generalize hQ : pre ++ b = Q at *
 cases b with
 | nil =>
  rw [if_pos (by simp at hl; omega)]
  rfl
 | cons tag b =>
  have ht := hb tag List.mem_cons_self
  simp only [List.length_cons] at hl
  rw [if_neg (by omega), if_pos (by omega), if_pos (by omega), r0]
  have e0 : (tag :: b).getD 0 0 = tag := rfl
  rw [e0, Int.tmod_eq_emod_of_nonneg ht.1]
  unfold headP
  dsimp only
  by_cases h31 : tag % 32 = 31
  ·rw [if_pos h31, if_pos h31]; rfl
  ·rw [if_neg h31, if_neg h31, wrap64_in _ (by omega)]
   cases b with
   | nil =>
    rw [if_pos (by simp at hl; omega)]
    rfl
   | cons x b =>
    have hx := hb x (by simp)
    simp only [List.length_cons] at hl
    have e1 : (tag :: x :: b).getD 1 0 = x := rfl
    rw [e1] at r1
    rw [if_neg (by omega), if_pos (by omega), if_pos (by omega)]
    rw [show (pre.length : Int) + 1 = (pre.length : Int) + ((1 : Nat) : Int) by rfl, r1, wrap64_in x (by omega)]
    unfold lenP
    dsimp only
    by_cases h1 : x < 128
    ·rw [if_pos h1, if_neg (by omega), if_neg (by omega), if_pos h1, wrap64_in _ (by omega)]
     unfold outH
     rw [show (pre.length : Int) + 2 = (Q.length : Int) - (b.length : Int) by omega]
    ·rw [if_neg h1]
     by_cases h2 : x = 129
     ·rw [if_pos h2, if_pos h2, lanyardref04_head.j1, if_neg (by simp), h2, wrap64_in ((pre.length : Int) + 129) (by omega), wrap64_in ((pre.length : Int) + 129 - 127) (by omega), if_pos rfl]
      cases b with
      | nil => rw [if_pos (by simp at hl; omega)]; rfl
      | cons y b =>
       have hy := hb y (by simp)
       simp only [List.length_cons] at hl
       have e2 : (tag :: x :: y :: b).getD 2 0 = y := rfl
       rw [e2] at r2
       rw [if_neg (by omega), wrap64_in ((pre.length : Int) + 2) (by omega), if_pos (by omega), if_pos (by omega)]
       rw [show (pre.length : Int) + 2 = (pre.length : Int) + ((2 : Nat) : Int) by rfl, r2]
       dsimp only
       by_cases h3 : 128 ≤ y
       ·rw [if_neg (by omega), if_pos h3, wrap64_in ((pre.length : Int) + 3) (by omega), wrap64_in y (by omega)]
        unfold outH
        rw [show (pre.length : Int) + 3 = (Q.length : Int) - (b.length : Int) by omega]
       ·rw [if_pos (by omega), if_neg h3]; rfl
     ·rw [if_neg h2, if_neg h2]
      by_cases h3 : x = 130
      ·rw [if_pos h3, lanyardref04_head.j1, h3, if_neg (by simp), wrap64_in ((pre.length : Int) + 130) (by omega), wrap64_in ((pre.length : Int) + 130 - 127) (by omega), if_neg (show ¬ ((130 : Int) = 129) by decide)]
       cases b with
       | nil => rw [if_pos (by simp at hl; omega)]; rfl
       | cons y b =>
        cases b with
        | nil => rw [if_pos (by simp at hl; omega)]; rfl
        | cons z b =>
         have hy := hb y (by simp)
         have hz := hb z (by simp)
         simp only [List.length_cons] at hl
         have e2 : (tag :: x :: y :: z :: b).getD 2 0 = y := rfl
         have e3 : (tag :: x :: y :: z :: b).getD 3 0 = z := rfl
         rw [e2] at r2
         rw [e3] at r3
         rw [if_neg (by omega), wrap64_in ((pre.length : Int) + 2) (by omega), if_pos (by omega), if_pos (by omega)]
         rw [show (pre.length : Int) + 2 = (pre.length : Int) + ((2 : Nat) : Int) by rfl, r2]
         dsimp only
         by_cases h4 : y = 0
         ·rw [if_pos h4, if_neg (by omega)]; rfl
         ·rw [if_neg h4, wrap64_in ((pre.length : Int) + 3) (by omega), if_pos (by omega), if_pos (by omega)]
          rw [show (pre.length : Int) + 3 = (pre.length : Int) + ((3 : Nat) : Int) by rfl, r3, wrap64_in y (by omega), wrap64_in z (by omega), wrap64_in (y * 256) (by omega), wrap64_in (y * 256 + z) (by omega), wrap64_in ((pre.length : Int) + 4) (by omega), if_pos (show 256 ≤ y * 256 + z by omega)]
          unfold outH
          rw [show (pre.length : Int) + 4 = (Q.length : Int) - (b.length : Int) by omega]
      ·rw [if_neg h3, if_neg h1, lanyardref04_head.j1, if_pos (by simp [h3])]; rfl

end Go.Proofs.Ytmbgjhkemlliaaa.Tlv
end

/- scalar.just, scalar.Of, walked. -/
section
set_option linter.unusedVariables false
set_option linter.unusedSimpArgs false
namespace Go.Proofs.Ytmbgjhkemlliaaa.Tlv
open Go.RowKit Go.Proofs.YtmbgjhkemlliaaaW.PrintWords Go.Proofs.YtmbgjhkemlliaaaW.PrintLast Go.Proofs.YtmbgjhkemlliaaaW.PrintMore Go.Proofs.Ytmbgjhkemlliaaa.PT

set_option maxHeartbeats 4000000 in
set_option maxRecDepth 100000 in
theorem of1_walk (p q : Nat) (B : Option Addr) (cb : Nat) (lb : List Int) (many : Int) (r : T) (r4 : Int) (w : World) (tp tq : TypeId) (hp : w.heap[p]? = some (.cells #[.slice B lb.length cb] tp (0, 0))) (hq : w.heap[q]? = some (.cells #[.int .i64 many] tq (0, 0)))
 (hr : ReadsInt w .u8 B lb.length lb) (hc : lb.length ≤ cb) (hf : scalar_Bits.f lb many = some (r.f0, r.f1, r.f2, r4)) :
 Calls Try.prog 43 #[.pointer (some ⟨p, 0, none⟩), .pointer (some ⟨q, 0, none⟩)] w fun e w' => ∃ v1 v2, e = .returned (.tuple #[.agg #[.int .i64 r.f0, v1, v2], .int .i64 r4]) ∧ NodeR w' w.heap.size w'.heap.size r v1 v2 ∧ Below w.heap.size w w' := by
 have p0 : (w.alloc (.cells #[.int .i64 0, .slice none 0 0, .slice none 0 0] 25)).cell? ⟨p, 0, none⟩ = some (.slice B lb.length cb) := Lib.cell_of_heap ((Below.heap_alloc w _ _ (heap_lt hp)).trans hp) 0
 have q0 : (w.alloc (.cells #[.int .i64 0, .slice none 0 0, .slice none 0 0] 25)).cell? ⟨q, 0, none⟩ = some (.int .i64 many) := Lib.cell_of_heap ((Below.heap_alloc w _ _ (heap_lt hq)).trans hq) 0
 have hb0 : (w.alloc (.cells #[.int .i64 0, .slice none 0 0, .slice none 0 0] 25)).heap[w.heap.size]? = some (.cells #[.int .i64 0, .slice none 0 0, .slice none 0 0] 25 (0, 0)) := heap_alloc_new w _
 have hB1 : Below w.heap.size w (w.alloc (.cells #[.int .i64 0, .slice none 0 0, .slice none 0 0] 25)) := (Below.refl _ _).alloc (Nat.le_refl _) _
 have HBITS := Lib.hid (scalar_Bits.calls B cb lb many r.f0 r.f1 r.f2 r4 (w.alloc (.cells #[.int .i64 0, .slice none 0 0, .slice none 0 0] 25)) (Kd.C_below (C_of_reads hr rfl) hB1) hc hf)
 have p1 : w.cell? ⟨p, 0, none⟩ = some (.slice B lb.length cb) := Lib.cell_of_heap hp 0
 have q1 : w.cell? ⟨q, 0, none⟩ = some (.int .i64 many) := Lib.cell_of_heap hq 0
 have hpn : p < w.heap.size := heap_lt hp
 have hqn : q < w.heap.size := heap_lt hq
 have hpe : (p = w.heap.size) = False := eq_false (by omega)
 have hqe : (q = w.heap.size) = False := eq_false (by omega)
 clear hp hq hr hc hf
 have HB00 := Lib.hid hb0
 have HB11 := Lib.hid hB1
 clear hb0 hB1
 go_enter Try.func43, Try.ntmps43
 go_wp2_with (fail)
 refine HBITS.out.mono ?_
 have hb0 := HB00.out
 have hB1 := HB11.out
 generalize w.alloc (.cells #[.int .i64 0, .slice none 0 0, .slice none 0 0] 25) = w1 at p0 q0 hb0 hB1 HBITS HB00 HB11
 rintro e w3 ⟨v1, v2, rfl, hv1, hv2, hB3⟩
 obtain ⟨A1, c1, rfl⟩ := Kd.R_slice hv1
 obtain ⟨A2, c2, rfl⟩ := Kd.R_slice hv2
 have hb3 := (hB3.block _ (heap_lt hb0)).trans hb0
 have hB := hB1.trans (hB3.mono hB1.size)
 have h0 := NodeR.of (n := r) hv1 hv2
 have H0 := Lib.hid h0
 have HB := Lib.hid hB
 have HB3 := Lib.hid hb3
 have HLT := Lib.hid (And.intro (heap_lt hb0) hB3.size)
 have a0 := Lib.cell_of_heap hb3 0
 have a1 := Lib.cell_of_heap hb3 1
 have a2 := Lib.cell_of_heap hb3 2
 have f0 := Lib.frozen_of_heap hb3 0
 have f1 := Lib.frozen_of_heap hb3 1
 have f2 := Lib.frozen_of_heap hb3 2
 have hsz : w.heap.size < w1.heap.size := heap_lt hb0
 clear h0 hB hb3 hB3 hv1 hv2 p0 q0 p1 q1 hpn hqn hpe hqe hb0 hB1 HBITS HB00 HB11
 go_wp2
 have z0 : (((w3.setCell ⟨w.heap.size, 0, none⟩ (.int .i64 r.f0)).setCell ⟨w.heap.size, 1, none⟩ (.slice A1 r.f1.length c1)).setCell ⟨w.heap.size, 2, none⟩ (.slice A2 r.f2.length c2)).heap[w.heap.size]? = some (.cells #[.int .i64 r.f0, .slice A1 r.f1.length c1, .slice A2 r.f2.length c2] 25 (0, 0)) :=
  heap_setCell_same _ _ 2 _ _ _ (heap_setCell_same _ _ 1 _ _ _ (heap_setCell_same _ _ 0 _ _ _ HB3.out))
 have zB : Below w.heap.size w (((w3.setCell ⟨w.heap.size, 0, none⟩ (.int .i64 r.f0)).setCell ⟨w.heap.size, 1, none⟩ (.slice A1 r.f1.length c1)).setCell ⟨w.heap.size, 2, none⟩ (.slice A2 r.f2.length c2)) :=
  Below.setCell (Below.setCell (Below.setCell HB.out (p := ⟨w.heap.size, 0, none⟩) (Nat.le_refl _) _) (p := ⟨w.heap.size, 1, none⟩) (Nat.le_refl _) _) (p := ⟨w.heap.size, 2, none⟩) (Nat.le_refl _) _
 have zk : ∀ k, k ≠ w.heap.size → (((w3.setCell ⟨w.heap.size, 0, none⟩ (.int .i64 r.f0)).setCell ⟨w.heap.size, 1, none⟩ (.slice A1 r.f1.length c1)).setCell ⟨w.heap.size, 2, none⟩ (.slice A2 r.f2.length c2)).heap[k]? = w3.heap[k]? :=
  fun k hk => (heap_setCell_other _ _ _ _ hk).trans ((heap_setCell_other _ _ _ _ hk).trans (heap_setCell_other _ _ _ _ hk))
 have zs : (((w3.setCell ⟨w.heap.size, 0, none⟩ (.int .i64 r.f0)).setCell ⟨w.heap.size, 1, none⟩ (.slice A1 r.f1.length c1)).setCell ⟨w.heap.size, 2, none⟩ (.slice A2 r.f2.length c2)).heap.size = w3.heap.size := by simp
 generalize ((w3.setCell ⟨w.heap.size, 0, none⟩ (.int .i64 r.f0)).setCell ⟨w.heap.size, 1, none⟩ (.slice A1 r.f1.length c1)).setCell ⟨w.heap.size, 2, none⟩ (.slice A2 r.f2.length c2) = w5 at z0 zB zk zs ⊢
 have b0 := Lib.cell_of_heap z0 0
 have b1 := Lib.cell_of_heap z0 1
 have b2 := Lib.cell_of_heap z0 2
 refine bodyPost_ret (v := .tuple #[.agg #[.int .i64 r.f0, .slice A1 r.f1.length c1, .slice A2 r.f2.length c2], .int .i64 r4]) (by simp [results, Try.results43, go_sem, b0, b1, b2]) rfl ?_
 refine ⟨_, _, rfl, ?_, zB⟩
 exact NodeR.widen (NodeR.move (w1 := w5) H0.out (fun k hk1 hk2 => zk k (by omega))) (by omega) (by omega)

def sameB (r n : T) : Bool := decide (r.f0 = n.f0) && (eqB r.f1 n.f1 && (wrap64 ((r.f2.length : Int) + (n.f2.length : Int)) == 0))
theorem sameB_f (r n : T) : scalar_same.f r.f0 r.f1 r.f2 n.f0 n.f1 n.f2 = some (sameB r n) := by
 unfold scalar_same.f sameB bytes_Equal.f
 by_cases h : r.f0 = n.f0
 ·rw [if_pos h, Option.bind_some, decide_eq_true h]
  show (if eqB r.f1 n.f1 = true then _ else _) = _
  generalize (wrap64 ((r.f2.length : Int) + (n.f2.length : Int)) == 0) = z
  cases eqB r.f1 n.f1 <;> cases z <;> rfl
 ·rw [if_neg h, decide_eq_false h, Bool.false_and]

set_option maxHeartbeats 4000000 in
set_option maxRecDepth 100000 in
theorem just_walk (X : Option Addr) (x : List Int) (cx : Nat) (n : T) (A1 : Option Addr) (c1 : Nat) (A2 : Option Addr) (c2 : Nat) (p q : Nat) (w : World) (hn : NodeAt w n A1 c1 A2 c2)
 (B : Option Addr) (cb : Nat) (lb : List Int) (many : Int) (r : T) (r4 : Int) (tp tq : TypeId) (hp : w.heap[p]? = some (.cells #[.slice B lb.length cb] tp (0, 0))) (hq : w.heap[q]? = some (.cells #[.int .i64 many] tq (0, 0)))
 (hr : ReadsInt w .u8 B lb.length lb) (hc : lb.length ≤ cb) (hf : scalar_Bits.f lb many = some (r.f0, r.f1, r.f2, r4)) :
 Calls Try.prog 42 #[.slice X x.length cx, .bool true, .agg #[.int .i64 n.f0, .slice A1 n.f1.length c1, .slice A2 n.f2.length c2], .func (.func 43) #[] #[.pointer (some ⟨p, 0, none⟩), .pointer (some ⟨q, 0, none⟩)]] w
  fun e w' => e = .returned (if r4 = 0 ∧ sameB r n = true then .tuple #[.slice X x.length cx, .int .i64 0] else .tuple #[.slice none 0 0, .int .i64 2]) ∧ Below w.heap.size w w' := by
 have hnot : ∀ (x : Bool) (w : World), (Op.unary .not (.bool x)).run Try.prog w = .ok (.bool (!x)) w := fun _ _ => rfl
 have hb0 : (w.alloc (.cells #[.int .i64 n.f0, .slice A1 n.f1.length c1, .slice A2 n.f2.length c2] 25)).heap[w.heap.size]? = some (.cells #[.int .i64 n.f0, .slice A1 n.f1.length c1, .slice A2 n.f2.length c2] 25 (0, 0)) := heap_alloc_new w _
 have hB1 : Below w.heap.size w (w.alloc (.cells #[.int .i64 n.f0, .slice A1 n.f1.length c1, .slice A2 n.f2.length c2] 25)) := (Below.refl _ _).alloc (Nat.le_refl _) _
 have HLAY := Lib.hid (of1_walk p q B cb lb many r r4 _ tp tq ((hB1.block _ (heap_lt hp)).trans hp) ((hB1.block _ (heap_lt hq)).trans hq) (ReadsInt_below hr hB1) hc hf)
 have HN := Lib.hid (fun w' (hB : Below w.heap.size w w') => hn.below hB)
 have HB0 := Lib.hid hb0
 have HB1 := Lib.hid hB1
 generalize hRR : (if r4 = 0 ∧ sameB r n = true then Value.tuple #[.slice X x.length cx, .int .i64 0] else .tuple #[.slice none 0 0, .int .i64 2]) = RR
 clear hp hq hr hc hf hn hb0 hB1
 go_enter Try.func42, Try.ntmps42
 go_wp2_with (fail)
 refine HLAY.out.mono ?_
 rintro e w3 ⟨v1, v2, rfl, hv, hB3⟩
 obtain ⟨M1, m1, M2, m2, rfl, rfl, hm⟩ := hv.form
 have hb3 := (hB3.block _ (heap_lt HB0.out)).trans HB0.out
 have hB := HB1.out.trans (hB3.mono HB1.out.size)
 have HM := Lib.hid hm
 have HB := Lib.hid hB
 have HB3 := Lib.hid hb3
 have a0 := Lib.cell_of_heap hb3 0
 have a1 := Lib.cell_of_heap hb3 1
 have a2 := Lib.cell_of_heap hb3 2
 have hlt := heap_lt hb3
 clear hv hm hB hb3 hB3 HLAY
 by_cases h4 : r4 = 0
 ·subst h4
  have HSAME := Lib.hid (scalar_same.calls r.f0 M1 m1 r.f1 M2 m2 r.f2 n.f0 A1 c1 n.f1 A2 c2 n.f2 (sameB r n) (w3.alloc (.cells #[.int .i64 r.f0, .slice M1 r.f1.length m1, .slice M2 r.f2.length m2] 25))
   (Kd.C_below HM.out.1 ((Below.refl _ _).alloc (Nat.le_refl _) _)) HM.out.2.1 (Kd.C_below HM.out.2.2.1 ((Below.refl _ _).alloc (Nat.le_refl _) _)) HM.out.2.2.2
   (Kd.C_below (HN.out _ HB.out).1 ((Below.refl _ _).alloc (Nat.le_refl _) _)) (HN.out _ HB.out).2.1 (Kd.C_below (HN.out _ HB.out).2.2.1 ((Below.refl _ _).alloc (Nat.le_refl _) _)) (HN.out _ HB.out).2.2.2 (sameB_f r n))
  have HBF := Lib.hid (show Below w.heap.size w (w3.alloc (.cells #[.int .i64 r.f0, .slice M1 r.f1.length m1, .slice M2 r.f2.length m2] 25)) from HB.out.alloc HB.out.size _)
  go_wp2_with (fail)
  refine HSAME.out.mono ?_
  rintro e w4 ⟨rfl, hB4⟩
  have hBf := HBF.out.trans (hB4.mono HBF.out.size)
  clear hB4
  cases hs : sameB r n with
  | true =>
   have hp : RR = .tuple #[.slice X x.length cx, .int .i64 0] := by rw [← hRR]; simp [hs]
   clear hRR
   subst hp
   clear hs
   go_wp2
   go_ret2
   exact ⟨by first | rfl | trivial | simp, hBf⟩
  | false =>
   have hp : RR = .tuple #[.slice none 0 0, .int .i64 2] := by rw [← hRR, if_neg (by rw [hs]; simp)]
   clear hRR
   subst hp
   clear hs
   go_wp2
   go_ret2
   exact ⟨by first | rfl | trivial | simp, hBf⟩
 ·have hp : RR = .tuple #[.slice none 0 0, .int .i64 2] := by rw [← hRR, if_neg (fun h => h4 h.1)]
  clear hRR
  subst hp
  have h4' : decide (r4 = 0) = false := decide_eq_false h4
  have h4'' := eq_false h4
  clear h4
  have HBF := Lib.hid (show Below w.heap.size w (w3.alloc (.cells #[.int .i64 r.f0, .slice M1 r.f1.length m1, .slice M2 r.f2.length m2] 25)) from HB.out.alloc HB.out.size _)
  go_wp2
  go_ret2
  exact ⟨by first | rfl | trivial | simp, HBF.out⟩

end Go.Proofs.Ytmbgjhkemlliaaa.Tlv
end

/- scalar.Of, walked. -/
section
set_option linter.unusedVariables false
set_option linter.unusedSimpArgs false
namespace Go.Proofs.Ytmbgjhkemlliaaa.Tlv
open Go.RowKit Go.Proofs.YtmbgjhkemlliaaaW.PrintWords Go.Proofs.YtmbgjhkemlliaaaW.PrintLast Go.Proofs.YtmbgjhkemlliaaaW.PrintMore Go.Proofs.Ytmbgjhkemlliaaa.PT

set_option maxHeartbeats 4000000 in
set_option maxRecDepth 100000 in
theorem of_none (n : T) (h0 : n.f1 = []) (A1 : Option Addr) (c1 : Nat) (A2 : Option Addr) (c2 : Nat) (w : World) :
 Calls Try.prog 24 #[.agg #[.int .i64 n.f0, .slice A1 n.f1.length c1, .slice A2 n.f2.length c2]] w fun e w' => e = .returned (.tuple #[.slice none 0 0, .int .i64 0, .int .i64 2]) ∧ Below w.heap.size w w' := by
 have hl : n.f1.length = 0 := by rw [h0]; rfl
 rw [hl]
 have hB := Lib.hid (show Below w.heap.size w (w.alloc (.cells #[.int .i64 n.f0, .slice A1 0 c1, .slice A2 n.f2.length c2] 25)) from (Below.refl _ _).alloc (Nat.le_refl _) _)
 go_enter Try.func24, Try.ntmps24
 go_wp2
 go_ret3
 exact ⟨rfl, hB.out⟩

set_option maxHeartbeats 4000000 in
set_option maxRecDepth 100000 in
theorem of_walk (n : T) (h : Int) (t : List Int) (h1 : n.f1 = h :: t) (hh : 0 ≤ h ∧ h < 256) (ht : t.length ≤ 1000000) (r : T) (r4 : Int) (hf : scalar_Bits.f t (wrap64 (wrap64 (8 * (t.length : Int)) - h)) = some (r.f0, r.f1, r.f2, r4))
 (A1 : Option Addr) (c1 : Nat) (A2 : Option Addr) (c2 : Nat) (w : World) (hn : NodeAt w n A1 c1 A2 c2) :
 Calls Try.prog 24 #[.agg #[.int .i64 n.f0, .slice A1 n.f1.length c1, .slice A2 n.f2.length c2]] w fun e w' =>
  ((¬ (r4 = 0 ∧ sameB r n = true) ∧ e = .returned (.tuple #[.slice none 0 0, .int .i64 0, .int .i64 2])) ∨ (r4 = 0 ∧ sameB r n = true ∧ ∃ A c, e = .returned (.tuple #[.slice A t.length c, .int .i64 (wrap64 (wrap64 (8 * (t.length : Int)) - h)), .int .i64 0]) ∧ (Kd.int .u8).R 5 w' w.heap.size (fun _ => True) (.slice A t.length c) t)) ∧ Below w.heap.size w w' := by
 have hr1 : ReadsInt w .u8 A1 n.f1.length n.f1 := reads_of_C hn.1
 have hlen : n.f1.length = t.length + 1 := by rw [h1]; rfl
 have hc1 := hn.2.1
 obtain ⟨i0, hi, hz0, hz1, hz2⟩ := info_parts infoByte
 obtain ⟨T1, hcut, hcr, hcc⟩ := print_cut_int (P := Try.prog) (k := .u8) 22 5 Try.underlying22 hi hz1 A1 c1 n.f1 (1 : Int) (by omega) (by omega) hc1
 have hd1 : n.f1.drop (Int.toNat 1) = t := by rw [h1]; rfl
 rw [hd1] at hcut hcr hcc
 obtain ⟨ad, e1, hx⟩ := hr1.2.2 (by omega)
 subst e1
 have hx0 : w.cell? ad = some (.int .u8 h) := by
  have := hx 0 (by omega)
  rw [h1, show ad.add 0 = ad by cases ad; simp [Addr.add]] at this
  simpa using this
 have HN := Lib.hid hn
 have HB1 := Lib.hid (show Below w.heap.size w (w.alloc (.cells #[.int .i64 n.f0, .slice (some ad) (t.length + 1) c1, .slice A2 n.f2.length c2] 25)) from (Below.refl _ _).alloc (Nat.le_refl _) _)
 have HBX := Lib.hid (show (w.alloc (.cells #[.int .i64 n.f0, .slice (some ad) (t.length + 1) c1, .slice A2 n.f2.length c2] 25)).heap[w.heap.size]? = some (.cells #[.int .i64 n.f0, .slice (some ad) (t.length + 1) c1, .slice A2 n.f2.length c2] 25 (0, 0)) from heap_alloc_new w _)
 have HCL := Lib.hid (fun w1 (hB : Below w.heap.size w w1) => clone_walk T1 (c1 - 1) t w1 (ReadsInt_below (hcr w hr1) hB) (by simpa using hcc) ht)
 have HX0 := Lib.hid hx0
 have HF := Lib.hid hf
 have HH := Lib.hid hh
 have HT := Lib.hid ht
 clear hcr hcc hd1 hx hx0 hr1 hn hf hi hz0 hz1 hz2 h1 hh ht
 rw [hlen] at hcut hc1 ⊢
 have h4 : ∀ (w3 : World) (A' : Option Addr) (c' : Nat), (Kd.int .u8).R 5 w3 (w.alloc (.cells #[.int .i64 n.f0, .slice (some ad) (t.length + 1) c1, .slice A2 n.f2.length c2] 25)).heap.size (fun _ => True) (.slice A' t.length c') t →
  Below (w.alloc (.cells #[.int .i64 n.f0, .slice (some ad) (t.length + 1) c1, .slice A2 n.f2.length c2] 25)).heap.size (w.alloc (.cells #[.int .i64 n.f0, .slice (some ad) (t.length + 1) c1, .slice A2 n.f2.length c2] 25)) w3 → ∀ w4 : World, w4 = (w3.alloc (.cells #[.slice A' t.length c'] 22)).drew →
  (w4.cell? ⟨w3.heap.size, 0, none⟩ = some (.slice A' t.length c') ∧ w4.cell? ⟨w.heap.size, 1, none⟩ = some (.slice (some ad) (t.length + 1) c1) ∧ w4.cell? ad = some (.int .u8 h)) ∧
  ((w4.alloc (.cells #[.int .i64 0] 3)).cell? ⟨w3.heap.size, 0, none⟩ = some (.slice A' t.length c') ∧ (w4.alloc (.cells #[.int .i64 0] 3)).cell? ⟨w.heap.size, 1, none⟩ = some (.slice (some ad) (t.length + 1) c1) ∧ (w4.alloc (.cells #[.int .i64 0] 3)).cell? ad = some (.int .u8 h)) ∧
  (w4.alloc (.cells #[.int .i64 0] 3)).cell? ⟨w4.heap.size, 0, none⟩ = some (.int .i64 0) ∧ (w4.alloc (.cells #[.int .i64 0] 3)).frozen? ⟨w4.heap.size, 0, none⟩ = false ∧
  w4.heap.size = w3.heap.size + 1 ∧
  (∀ many : Int, ∀ w5 : World, w5 = (w4.alloc (.cells #[.int .i64 0] 3)).setCell ⟨w4.heap.size, 0, none⟩ (.int .i64 many) →
   w5.heap[w3.heap.size]? = some (.cells #[.slice A' t.length c'] 22 (0, 0)) ∧ w5.heap[w4.heap.size]? = some (.cells #[.int .i64 many] 3 (0, 0)) ∧ w5.heap[w.heap.size]? = some (.cells #[.int .i64 n.f0, .slice (some ad) (t.length + 1) c1, .slice A2 n.f2.length c2] 25 (0, 0)) ∧ Below w.heap.size w w5 ∧
   (Kd.int .u8).R 5 w5 w.heap.size (fun k => k < w3.heap.size) (.slice A' t.length c') t ∧ t.length ≤ c' ∧ ReadsInt w5 .u8 A' t.length t) := by
  intro w3 A' c' hv3 hB3 w4 hw4
  have hbx := HBX.out
  have hB1 := HB1.out
  generalize (w.alloc (.cells #[.int .i64 n.f0, .slice (some ad) (t.length + 1) c1, .slice A2 n.f2.length c2] 25)) = w2 at hv3 hB3 hbx hB1
  have hb3 := (hB3.block _ (heap_lt hbx)).trans hbx
  have hBw3 : Below w.heap.size w w3 := hB1.trans (hB3.mono hB1.size)
  have hal : Below w3.heap.size w3 (w3.alloc (.cells #[.slice A' t.length c'] 22)).drew := ((Below.refl _ _).alloc (Nat.le_refl _) _).drew
  have hs4 : w4.heap.size = w3.heap.size + 1 := by rw [hw4]; show (w3.alloc _).heap.size = _; simp
  have hp4 : w4.heap[w3.heap.size]? = some (.cells #[.slice A' t.length c'] 22 (0, 0)) := by rw [hw4]; exact heap_alloc_new w3 _
  rw [← hw4] at hal
  have hb4 := (hal.block _ (heap_lt hb3)).trans hb3
  have hBw4 : Below w.heap.size w w4 := hBw3.trans (hal.mono hBw3.size)
  have hx4 : w4.cell? ad = some (.int .u8 h) := (hBw4.cell (World.block_lt_of_cell? w _ HX0.out)).trans HX0.out
  have hal2 : Below w4.heap.size w4 (w4.alloc (.cells #[.int .i64 0] 3)) := (Below.refl _ _).alloc (Nat.le_refl _) _
  have hq5 : (w4.alloc (.cells #[.int .i64 0] 3)).heap[w4.heap.size]? = some (.cells #[.int .i64 0] 3 (0, 0)) := heap_alloc_new w4 _
  have hp5 := (hal2.block _ (heap_lt hp4)).trans hp4
  have hb5 := (hal2.block _ (heap_lt hb4)).trans hb4
  have hx5 : (w4.alloc (.cells #[.int .i64 0] 3)).cell? ad = some (.int .u8 h) := (hal2.cell (World.block_lt_of_cell? w4 _ hx4)).trans hx4
  refine ⟨⟨Lib.cell_of_heap hp4 0, Lib.cell_of_heap hb4 1, hx4⟩, ⟨Lib.cell_of_heap hp5 0, Lib.cell_of_heap hb5 1, hx5⟩, Lib.cell_of_heap hq5 0, Lib.frozen_of_heap hq5 0, hs4, ?_⟩
  intro many w5 hw5
  subst hw5
  have hR4 := Kd.R_below (Kd.R_mono (Kd.R_bound hv3) (fun k hk => show k < w3.heap.size from hk.2.2.1)) hal
  have hR5 := Kd.R_below hR4 hal2
  have hR6 := Kd.R_far (p := ⟨w4.heap.size, 0, none⟩) hR5 (fun k hk => by show k ≠ w4.heap.size; omega) (.int .i64 many)
  have hR7 := Kd.R_lower hR6 hB1.size
  obtain ⟨_, _, e1, hc', hrd⟩ := Kd.R_reads hR7
  injection e1 with e1 _ e1'
  subst e1 e1'
  have hBw5 := hBw4.trans (hal2.mono hBw4.size)
  refine ⟨(heap_setCell_other _ _ _ _ (by show w3.heap.size ≠ w4.heap.size; omega)).trans hp5, heap_setCell_same _ _ 0 _ _ _ hq5, (heap_setCell_other _ _ _ _ (by show w.heap.size ≠ w4.heap.size; have := heap_lt hb3; omega)).trans hb5, Below.setCell hBw5 (p := ⟨w4.heap.size, 0, none⟩) hBw4.size _, hR7, hc', reads_of_C hrd⟩
 have HH4 := Lib.hid h4
 clear h4
 go_enter Try.func24, Try.ntmps24
 go_wp2_with (fail)
 refine (HCL.out _ HB1.out).mono ?_
 rintro e w3 ⟨A', c', rfl, hv3, hB3⟩
 have H3 := Lib.hid (HH4.out w3 A' c' hv3 hB3)
 have HW3 := Lib.hid (Nat.le_trans HB1.out.size hB3.size)
 clear HH4 hv3 hB3 HCL
 go_wp2
 have h4 := H3.out _ rfl
 have a0 := h4.1.1
 have a1 := h4.1.2.1
 have a2 := h4.1.2.2
 have H4 := Lib.hid h4.2
 clear h4 H3
 have hwh : wrap64 h = h := wrap64_in _ (by have := HH.out; omega)
 refine start_ (n := 11) (S := fun w' => w'.cell? ⟨w3.heap.size, 0, none⟩ = some (.slice A' t.length c') ∧ w'.cell? ⟨w.heap.size, 1, none⟩ = some (.slice (some ad) (t.length + 1) c1) ∧ w'.cell? ad = some (.int .u8 h)) (ds := [10]) #[false, false, false, false, false, false, false, false, false, false, false] (by kernel_rfl) rfl rfl ⟨a0, a1, a2⟩ (fun hHeld => ?_)
 generalize (w3.alloc (.cells #[.slice A' t.length c'] 22)).drew = w4 at hHeld H4 ⊢
 clear a0 a1 a2
 refine pure_ (i := 3) (N := some 19) (v := ?_) (a' := ?_) #[false, false, false, true, false, false, false, false, false, false, false] rfl rfl (by kernel_rfl) (fun _ _ _ h => h) (Or.inl ⟨by rfl, ?_⟩) ?_ ?_
 rotate_left
 ·intro w'
  go_simp
  with_reducible rfl
 rotate_left
 ·simp only [Act.put, List.setIfInBounds_toArray, List.set_cons_zero, List.set_cons_succ, i64_w, i32_w]
  rfl
 refine take_ (i := 0) (N := some 16) (v := ?_) (a' := ?_) #[true, false, false, true, false, false, false, false, false, false, false] rfl rfl (by kernel_rfl) (fun _ _ _ h => h) (Or.inl ⟨by rfl, ?_⟩) hHeld ?_ ?_
 rotate_left
 ·rintro w' ⟨s0, s1, s2⟩
  go_simp
  with_reducible rfl
 rotate_left
 ·simp only [Act.put, List.setIfInBounds_toArray, List.set_cons_zero, List.set_cons_succ, i64_w, i32_w]
  rfl
 refine pure_ (i := 1) (N := some 17) (v := ?_) (a' := ?_) #[true, true, false, true, false, false, false, false, false, false, false] rfl rfl (by kernel_rfl) (fun _ _ _ h => h) (Or.inl ⟨by rfl, ?_⟩) ?_ ?_
 rotate_left
 ·intro w'
  go_simp
  with_reducible rfl
 rotate_left
 ·simp only [Act.put, List.setIfInBounds_toArray, List.set_cons_zero, List.set_cons_succ, i64_w, i32_w]
  rfl
 refine pure_ (i := 2) (N := some 18) (v := ?_) (a' := ?_) #[true, true, true, true, false, false, false, false, false, false, false] rfl rfl (by kernel_rfl) (fun _ _ _ h => h) (Or.inl ⟨by rfl, ?_⟩) ?_ ?_
 rotate_left
 ·intro w'
  go_simp
  with_reducible rfl
 rotate_left
 ·simp only [Act.put, List.setIfInBounds_toArray, List.set_cons_zero, List.set_cons_succ, i64_w, i32_w]
  rfl
 refine take_ (i := 4) (N := some 20) (v := ?_) (a' := ?_) #[true, true, true, true, true, false, false, false, false, false, false] rfl rfl (by kernel_rfl) (fun _ _ _ h => h) (Or.inl ⟨by rfl, ?_⟩) hHeld ?_ ?_
 rotate_left
 ·rintro w' ⟨s0, s1, s2⟩
  go_simp
  with_reducible rfl
 rotate_left
 ·simp only [Act.put, List.setIfInBounds_toArray, List.set_cons_zero, List.set_cons_succ, i64_w, i32_w]
  rfl
 refine pure_ (i := 5) (N := some 21) (v := ?_) (a' := ?_) #[true, true, true, true, true, true, false, false, false, false, false] rfl rfl (by kernel_rfl) (fun _ _ _ h => h) (Or.inl ⟨by rfl, ?_⟩) ?_ ?_
 rotate_left
 ·intro w'
  go_simp
  with_reducible rfl
 rotate_left
 ·simp only [Act.put, List.setIfInBounds_toArray, List.set_cons_zero, List.set_cons_succ, i64_w, i32_w]
  rfl
 refine take_ (i := 6) (N := some 22) (v := ?_) (a' := ?_) #[true, true, true, true, true, true, true, false, false, false, false] rfl rfl (by kernel_rfl) (fun _ _ _ h => h) (Or.inl ⟨by rfl, ?_⟩) hHeld ?_ ?_
 rotate_left
 ·rintro w' ⟨s0, s1, s2⟩
  go_simp
  with_reducible rfl
 rotate_left
 ·simp only [Act.put, List.setIfInBounds_toArray, List.set_cons_zero, List.set_cons_succ, i64_w, i32_w]
  rfl
 refine pure_ (i := 7) (N := some 23) (v := ?_) (a' := ?_) #[true, true, true, true, true, true, true, true, false, false, false] rfl rfl (by kernel_rfl) (fun _ _ _ h => h) (Or.inl ⟨by rfl, ?_⟩) ?_ ?_
 rotate_left
 ·intro w'
  go_simp
  with_reducible rfl
 rotate_left
 ·simp only [Act.put, List.setIfInBounds_toArray, List.set_cons_zero, List.set_cons_succ, i64_w, i32_w]
  rfl
 refine pure_ (i := 8) (N := some 24) (v := ?_) (a' := ?_) #[true, true, true, true, true, true, true, true, true, false, false] rfl rfl (by kernel_rfl) (fun _ _ _ h => h) (Or.inl ⟨by rfl, ?_⟩) ?_ ?_
 rotate_left
 ·intro w'
  go_simp
  with_reducible rfl
 rotate_left
 ·simp only [Act.put, List.setIfInBounds_toArray, List.set_cons_zero, List.set_cons_succ, i64_w, i32_w]
  rfl
 refine one_ (i := 9) (N := some 6) #[true, true, true, true, true, true, true, true, true, true, false] rfl rfl (by kernel_rfl) (by decide) (fun K hK => ?_)
 refine event_step (by rfl) (v := .pointer (some ⟨w4.heap.size, 0, none⟩)) (w1 := w4.alloc (.cells #[.int .i64 0] 3)) (by go_simp; try rfl) ?_
 refine hK.out _ _ H4.out.1 (fun hHeld => ?_)
 clear hK K
 refine norm_ (a' := ?_) ?_ ?_
 rotate_left
 ·show Act.put _ (some 6) _ = _
  simp only [Act.put, List.setIfInBounds_toArray, List.set_cons_zero, List.set_cons_succ, i64_w, i32_w]
  rfl
 refine last_ (i := 10) (N := none) #[true, true, true, true, true, true, true, true, true, true, true] rfl rfl (by kernel_rfl) (by decide) (fun K hK => ?_)
 have hz1 := H4.out.2.1
 have hz2 := H4.out.2.2.1
 refine skip_step (by rfl) (w1 := (w4.alloc (.cells #[.int .i64 0] 3)).setCell ⟨w4.heap.size, 0, none⟩ (.int .i64 (wrap64 (wrap64 (8 * (t.length : Int)) - h)))) (by go_simp; try rfl) ?_
 refine hK.out _ _ ?_
 clear hK K
 refine done_ (by kernel_rfl) ?_
 have h5 := H4.out.2.2.2.2 (wrap64 (wrap64 (8 * (t.length : Int)) - h)) _ rfl
 have HS4 := Lib.hid H4.out.2.2.2.1
 clear H4
 generalize (w4.alloc (.cells #[.int .i64 0] 3)).setCell ⟨w4.heap.size, 0, none⟩ (.int .i64 (wrap64 (wrap64 (8 * (t.length : Int)) - h))) = w5 at h5 ⊢
 have a0 := Lib.cell_of_heap h5.1 0
 have b0 := Lib.cell_of_heap h5.2.2.1 0
 have b1 := Lib.cell_of_heap h5.2.2.1 1
 have b2 := Lib.cell_of_heap h5.2.2.1 2
 have HJ := Lib.hid (just_walk A' t c' n (some ad) c1 A2 c2 w3.heap.size w4.heap.size w5 (HN.out.below h5.2.2.2.1) A' c' t _ r r4 _ _ h5.1 h5.2.1 h5.2.2.2.2.2.2 h5.2.2.2.2.2.1 HF.out)
 rw [hlen] at HJ
 have H5 := Lib.hid h5
 clear h5
 go_wp2_with (fail)
 refine HJ.out.mono ?_
 rintro e w6 ⟨rfl, hB6⟩
 clear HJ a0 b0 b1 b2
 have hp6 := (hB6.block _ (heap_lt H5.out.1)).trans H5.out.1
 have hq6 := (hB6.block _ (heap_lt H5.out.2.1)).trans H5.out.2.1
 have hR6 := Kd.R_below H5.out.2.2.2.2.1 hB6
 have hBw6 := H5.out.2.2.2.1.trans (hB6.mono H5.out.2.2.2.1.size)
 have hne : w4.heap.size ≠ w3.heap.size := by have := HS4.out; omega
 have hw3 : w.heap.size ≤ w3.heap.size := HW3.out
 have hR7 : ∀ u, (Kd.int .u8).R 5 (w6.setCell ⟨w3.heap.size, 0, none⟩ u) w.heap.size (fun k => k < w3.heap.size) (.slice A' t.length c') t := fun u => Kd.R_far (p := ⟨w3.heap.size, 0, none⟩) hR6 (fun k hk => by show k ≠ w3.heap.size; omega) u
 have hB7 : ∀ u, Below w.heap.size w (w6.setCell ⟨w3.heap.size, 0, none⟩ u) := fun u => Below.setCell hBw6 (p := ⟨w3.heap.size, 0, none⟩) hw3 u
 have hp7 : ∀ u, (w6.setCell ⟨w3.heap.size, 0, none⟩ u).drew.heap[w3.heap.size]? = some (.cells #[u] 22 (0, 0)) := fun u => by show (w6.setCell ⟨w3.heap.size, 0, none⟩ u).heap[w3.heap.size]? = _; exact heap_setCell_same _ _ 0 _ _ _ hp6
 have hq7 : ∀ u, (w6.setCell ⟨w3.heap.size, 0, none⟩ u).drew.heap[w4.heap.size]? = some (.cells #[.int .i64 (wrap64 (wrap64 (8 * (t.length : Int)) - h))] 3 (0, 0)) := fun u => by show (w6.setCell ⟨w3.heap.size, 0, none⟩ u).heap[w4.heap.size]? = _; exact (heap_setCell_other _ _ _ _ (by show w4.heap.size ≠ w3.heap.size; omega)).trans hq6
 have x0 := Lib.cell_of_heap hp6 0
 have fx0 := Lib.frozen_of_heap hp6 0
 have HR7 := Lib.hid hR7
 have HB7 := Lib.hid hB7
 have HP7 := Lib.hid hp7
 have HQ7 := Lib.hid hq7
 clear hR7 hB7 hp7 hq7 hp6 hq6 hR6 hBw6 hB6
 by_cases hgood : r4 = 0 ∧ sameB r n = true
 ·rw [if_pos hgood]
  have HG := Lib.hid hgood
  clear hgood
  go_wp2
  have a0 : (w6.setCell ⟨w3.heap.size, 0, none⟩ (.slice A' t.length c')).drew.cell? ⟨w3.heap.size, 0, none⟩ = some (.slice A' t.length c') := Lib.cell_of_heap (HP7.out _) 0
  have a1 : (w6.setCell ⟨w3.heap.size, 0, none⟩ (.slice A' t.length c')).drew.cell? ⟨w4.heap.size, 0, none⟩ = some (.int .i64 (wrap64 (wrap64 (8 * (t.length : Int)) - h))) := Lib.cell_of_heap (HQ7.out _) 0
  refine start_ (n := 5) (S := fun w' => w'.cell? ⟨w3.heap.size, 0, none⟩ = some (.slice A' t.length c') ∧ w'.cell? ⟨w4.heap.size, 0, none⟩ = some (.int .i64 (wrap64 (wrap64 (8 * (t.length : Int)) - h)))) (ds := []) #[false, false, false, false, false] (by kernel_rfl) rfl rfl ⟨a0, a1⟩ (fun hHeld => ?_)
  refine take_ (i := 0) (N := some 35) (v := ?_) (a' := ?_) #[true, false, false, false, false] rfl rfl (by kernel_rfl) (fun _ _ _ h => h) (Or.inl ⟨by rfl, ?_⟩) hHeld ?_ ?_
  rotate_left
  ·rintro w' ⟨s0, s1⟩
   go_simp
   with_reducible rfl
  rotate_left
  ·simp only [Act.put, List.setIfInBounds_toArray, List.set_cons_zero, List.set_cons_succ, i64_w, i32_w]
   rfl
  refine take_ (i := 1) (N := some 36) (v := ?_) (a' := ?_) #[true, true, false, false, false] rfl rfl (by kernel_rfl) (fun _ _ _ h => h) (Or.inl ⟨by rfl, ?_⟩) hHeld ?_ ?_
  rotate_left
  ·rintro w' ⟨s0, s1⟩
   go_simp
   with_reducible rfl
  rotate_left
  ·simp only [Act.put, List.setIfInBounds_toArray, List.set_cons_zero, List.set_cons_succ, i64_w, i32_w]
   rfl
  refine pure_ (i := 2) (N := some 2) (v := ?_) (a' := ?_) #[true, true, true, false, false] rfl rfl (by kernel_rfl) (fun _ _ _ h => h) (Or.inl ⟨by rfl, ?_⟩) ?_ ?_
  rotate_left
  ·intro w'
   go_simp
   with_reducible rfl
  rotate_left
  ·simp only [Act.put, List.setIfInBounds_toArray, List.set_cons_zero, List.set_cons_succ, i64_w, i32_w]
   rfl
  refine pure_ (i := 3) (N := some 3) (v := ?_) (a' := ?_) #[true, true, true, true, false] rfl rfl (by kernel_rfl) (fun _ _ _ h => h) (Or.inl ⟨by rfl, ?_⟩) ?_ ?_
  rotate_left
  ·intro w'
   go_simp
   with_reducible rfl
  rotate_left
  ·simp only [Act.put, List.setIfInBounds_toArray, List.set_cons_zero, List.set_cons_succ, i64_w, i32_w]
   rfl
  refine pure_ (i := 4) (N := some 4) (v := ?_) (a' := ?_) #[true, true, true, true, true] rfl rfl (by kernel_rfl) (fun _ _ _ h => h) (Or.inl ⟨by rfl, ?_⟩) ?_ ?_
  rotate_left
  ·intro w'
   go_simp
   with_reducible rfl
  rotate_left
  ·simp only [Act.put, List.setIfInBounds_toArray, List.set_cons_zero, List.set_cons_succ, i64_w, i32_w]
   rfl
  refine done_ (by kernel_rfl) ?_
  go_wp2
  go_ret3
  exact ⟨.inr ⟨HG.out.1, HG.out.2, A', c', rfl, Kd.R_mono (Kd.R_drew (HR7.out _)) (fun _ _ => trivial)⟩, (HB7.out _).drew⟩
 ·rw [if_neg hgood]
  have HG := Lib.hid hgood
  clear hgood
  go_wp2
  go_ret3
  exact ⟨.inl ⟨HG.out, rfl⟩, HB7.out _⟩

end Go.Proofs.Ytmbgjhkemlliaaa.Tlv
end

/- spki.must, spki.Open's closure, walked. -/
section
set_option linter.unusedVariables false
set_option linter.unusedSimpArgs false
namespace Go.Proofs.Ytmbgjhkemlliaaa.Tlv
open Go.RowKit Go.Proofs.YtmbgjhkemlliaaaW.PrintWords Go.Proofs.YtmbgjhkemlliaaaW.PrintLast Go.Proofs.YtmbgjhkemlliaaaW.PrintMore Go.Proofs.Ytmbgjhkemlliaaa.PT

theorem must2_yes (w : World) : Calls Try.prog 22 #[.int .i64 0, .bool true] w fun e w' => e = .returned (.tuple #[]) ∧ w' = w := by
 have hnot : ∀ (x : Bool) (w : World), (Op.unary .not (.bool x)).run Try.prog w = .ok (.bool (!x)) w := fun _ _ => rfl
 go_enter Try.func22, Try.ntmps22
 go_wp2
 go_end0
 exact ⟨rfl, rfl⟩
theorem must2_no (f : Int) (b : Bool) (h : f ≠ 0 ∨ b = false) (w : World) : Calls Try.prog 22 #[.int .i64 f, .bool b] w fun e' w' => e' = gone 2 ∧ w' = w := by
 have hnot : ∀ (x : Bool) (w : World), (Op.unary .not (.bool x)).run Try.prog w = .ok (.bool (!x)) w := fun _ _ => rfl
 by_cases hf : f = 0
 ·subst hf
  have hb : b = false := by simpa using h
  subst hb
  go_enter Try.func22, Try.ntmps22
  go_wp2
  exact ⟨rfl, rfl, rfl⟩
 ·have h1 := eq_false hf
  have h2 : decide (f = 0) = false := decide_eq_false hf
  clear h hf
  go_enter Try.func22, Try.ntmps22
  go_wp2
  exact ⟨rfl, rfl, rfl⟩

theorem bits_some (t : List Int) (h : Int) (hh : 0 ≤ h ∧ h < 256) (ht : t.length ≤ 1000000) : ∃ (r : T) (r4 : Int), scalar_Bits.f t (wrap64 (wrap64 (8 * (t.length : Int)) - h)) = some (r.f0, r.f1, r.f2, r4) := by
 have e1 : wrap64 (8 * (t.length : Int)) = 8 * (t.length : Int) := by unfold wrap64; omega
 have e2 : wrap64 (8 * (t.length : Int) - h) = 8 * (t.length : Int) - h := by unfold wrap64; omega
 have e3 : wrap64 (8 * (t.length : Int) - (8 * (t.length : Int) - h)) = h := by unfold wrap64; omega
 have e4 : wrap64 ((t.length : Int) - 1) = (t.length : Int) - 1 := by unfold wrap64; omega
 rw [e1, e2]
 unfold scalar_Bits.f
 rw [e1, e3, e4]
 by_cases c1 : 8 * (t.length : Int) - h < 0
 ·rw [if_pos c1]; exact ⟨⟨_, _, _⟩, _, rfl⟩
 ·rw [if_neg c1, if_neg (by omega)]
  by_cases c2 : h > 7
  ·rw [if_pos c2]; exact ⟨⟨_, _, _⟩, _, rfl⟩
  ·rw [if_neg c2]
   have c5 : ∀ y : Int, ([y] : List Int).length + t.length < 140737488355328 := fun y => by simp; omega
   by_cases c3 : h > 0
   ·rw [if_pos c3, if_pos (by omega), if_pos (by omega), if_pos (by omega), Option.bind_some, if_pos (c5 _)]
    split
    ·exact ⟨⟨_, _, _⟩, _, rfl⟩
    ·exact ⟨⟨_, _, _⟩, _, rfl⟩
   ·rw [if_neg c3, Option.bind_some, if_pos (c5 _)]; exact ⟨⟨_, _, _⟩, _, rfl⟩
theorem bits_zero (t : List Int) (ht : t.length ≤ 1000000) : scalar_Bits.f t (wrap64 (wrap64 (8 * (t.length : Int)) - 0)) = some (3, 0 :: t, [], 0) := by
 have e1 : wrap64 (8 * (t.length : Int)) = 8 * (t.length : Int) := by unfold wrap64; omega
 have e2 : wrap64 (8 * (t.length : Int) - 0) = 8 * (t.length : Int) := by unfold wrap64; omega
 have e3 : wrap64 (8 * (t.length : Int) - 8 * (t.length : Int)) = 0 := by unfold wrap64; omega
 rw [e1, e2]
 unfold scalar_Bits.f
 rw [e1, e3, if_neg (by omega), if_neg (by omega), if_neg (by omega), if_neg (by omega)]
 have e4 : ([(0 : Int) % 256] : List Int).length + t.length < 140737488355328 := by simp; omega
 rw [Option.bind_some, if_pos e4]
 rfl
/-- A bit string of whole bytes: its bytes. -/
def sigP (n : T) : Option (List Int) := match n.f1 with
 | [] => none
 | h :: t => if h = 0 ∧ n.f0 = 3 ∧ n.f2 = [] then some t else none
def openSig (x : T) : Option (T × List Int) := match x.f2 with
 | [a, b, c] => if x.f0 = 48 ∧ sameP b (algT 11) = true then (match sigP c with | some t => some (a, t) | none => none) else none
 | _ => none

theorem sig_walk (c : T) (hv : ∀ v ∈ c.f1, 0 ≤ v ∧ v < 256) (hl : c.f1.length ≤ 1000000) (A1 : Option Addr) (c1 : Nat) (A2 : Option Addr) (c2 : Nat) (w : World) (hn : NodeAt w c A1 c1 A2 c2) :
 Calls Try.prog 24 #[.agg #[.int .i64 c.f0, .slice A1 c.f1.length c1, .slice A2 c.f2.length c2]] w fun e w' => (∃ A l cc m f, e = .returned (.tuple #[.slice A l cc, .int .i64 m, .int .i64 f]) ∧
  ((f ≠ 0 ∧ sigP c = none) ∨ (f = 0 ∧ m ≠ wrap64 (8 * (l : Int)) ∧ sigP c = none) ∨ (f = 0 ∧ m = wrap64 (8 * (l : Int)) ∧ ∃ t, sigP c = some t ∧ l = t.length ∧ (Kd.int .u8).R 5 w' w.heap.size (fun _ => True) (.slice A t.length cc) t))) ∧ Below w.heap.size w w' := by
 cases hc : c.f1 with
 | nil =>
  have hx := of_none c hc A1 c1 A2 c2 w
  rw [hc] at hx
  refine hx.mono ?_
  rintro e w' ⟨rfl, hB⟩
  exact ⟨⟨none, 0, 0, 0, 2, rfl, .inl ⟨by decide, by unfold sigP; rw [hc]⟩⟩, hB⟩
 | cons h t =>
  have hh := hv h (by rw [hc]; exact List.mem_cons_self)
  have ht : t.length ≤ 1000000 := by rw [hc, List.length_cons] at hl; omega
  obtain ⟨r, r4, hf⟩ := bits_some t h hh ht
  have hx := of_walk c h t hc hh ht r r4 hf A1 c1 A2 c2 w hn
  rw [hc] at hx
  refine hx.mono ?_
  rintro e w' ⟨hq, hB⟩
  refine ⟨?_, hB⟩
  rcases hq with ⟨hng, rfl⟩ | ⟨h4, hs, A, cc, rfl, hR⟩
  ·refine ⟨none, 0, 0, 0, 2, rfl, .inl ⟨by decide, ?_⟩⟩
   unfold sigP
   rw [hc]
   by_cases hz : h = 0 ∧ c.f0 = 3 ∧ c.f2 = []
   ·exfalso
    obtain ⟨rfl, z1, z2⟩ := hz
    rw [bits_zero t ht] at hf
    simp only [Option.some.injEq, Prod.mk.injEq] at hf
    obtain ⟨q1, q2, q3, q4⟩ := hf
    refine hng ⟨q4.symm, ?_⟩
    unfold sameB
    rw [← q1, ← q2, ← q3, z1, z2, hc, eqB_rfl]
    simp [wrap64]
   ·simp only []
    rw [if_neg hz]
  ·have e1 : wrap64 (8 * (t.length : Int)) = 8 * (t.length : Int) := by unfold wrap64; omega
   have e2 : wrap64 (8 * (t.length : Int) - h) = 8 * (t.length : Int) - h := by unfold wrap64; omega
   refine ⟨A, t.length, cc, _, 0, rfl, .inr ?_⟩
   by_cases h0 : h = 0
   ·subst h0
    refine .inr ⟨rfl, by rw [e1, e2]; omega, t, ?_, rfl, hR⟩
    rw [bits_zero t ht] at hf
    simp only [Option.some.injEq, Prod.mk.injEq] at hf
    obtain ⟨q1, q2, q3, q4⟩ := hf
    unfold sameB at hs
    rw [Bool.and_eq_true, Bool.and_eq_true] at hs
    have z1 : c.f0 = 3 := by have := of_decide_eq_true hs.1; rw [← this, ← q1]
    have z2 : c.f2 = [] := by
     have h5 := eq_of_beq hs.2.2
     rw [← q3] at h5
     have hm := Kd.C_max hn.2.2.1
     have h6 : wrap64 (((([] : List T).length : Nat) : Int) + (c.f2.length : Int)) = c.f2.length := by simp; unfold wrap64; omega
     rw [h6] at h5
     exact List.length_eq_zero_iff.1 (by omega)
    unfold sigP
    rw [hc]
    simp only []
    rw [if_pos ⟨trivial, z1, z2⟩]
   ·refine .inl ⟨rfl, by rw [e1, e2]; omega, ?_⟩
    unfold sigP
    rw [hc]
    simp only []
    rw [if_neg (fun hz => h0 hz.1)]

/-- What Open's closure does: x is what was read, in block p; the signature goes into block q. -/
def Open1Post (w : World) (x : T) (q : Nat) (e : Ending) (w' : World) : Prop := match openSig x with
 | none => e = gone 2 ∧ Below w.heap.size w w'
 | some (_, t) => e = .returned (.tuple #[]) ∧ ∃ w6 A c, Below w.heap.size w w6 ∧ w' = w6.setCell ⟨q, 0, none⟩ (.slice A t.length c) ∧ (Kd.int .u8).R 5 w6 w.heap.size (fun _ => True) (.slice A t.length c) t

theorem size_alg11 : sizeT (algT 11) ≤ 100000000 := by
 have e : sizeT (algT 11) = 15 := by decide
 omega

theorem open1_chain {w w3 : World} {p : Nat} {b0 : Value} {X1 : Value} {ad : Addr} {x2 : Nat} {tp : TypeId} {y : T} {Y1 : Option Addr} {y1 : Nat} {Y2 : Option Addr} {y2 : Nat} {M1 : Option Addr} {m1 : Nat} {M2 : Option Addr} {m2 : Nat} (hp : w.heap[p]? = some (.cells #[b0, X1, .slice (some ad) 3 x2] tp (0, 0)))
 (u0 : w.cell? ⟨ad.block, ad.off + 3, none⟩ = some (.int .i64 y.f0)) (u1 : w.cell? ⟨ad.block, ad.off + 3 + 1, none⟩ = some (.slice Y1 y.f1.length y1)) (u2 : w.cell? ⟨ad.block, ad.off + 3 + 2, none⟩ = some (.slice Y2 y.f2.length y2))
 (hny : NodeAt w y Y1 y1 Y2 y2) (hy : rightT y = true → sizeT y ≤ 100000000) (hm : NodeAt w3 (algT 11) M1 m1 M2 m2) (hB3' : Below w.drew.heap.size w.drew w3) :
 (w3.cell? ⟨p, 2, none⟩ = some (.slice (some ad) 3 x2) ∧ w3.cell? ⟨ad.block, ad.off + 3, none⟩ = some (.int .i64 y.f0) ∧ w3.cell? ⟨ad.block, ad.off + 3 + 1, none⟩ = some (.slice Y1 y.f1.length y1) ∧ w3.cell? ⟨ad.block, ad.off + 3 + 2, none⟩ = some (.slice Y2 y.f2.length y2)) ∧
 Calls Try.prog 23 #[.agg #[.int .i64 y.f0, .slice Y1 y.f1.length y1, .slice Y2 y.f2.length y2], .agg #[.int .i64 48, .slice M1 0 m1, .slice M2 2 m2]] w3 (fun e w4 => e = .returned (.bool (sameP y (algT 11))) ∧ Below w3.heap.size w3 w4) ∧
 (∀ w4, Below w3.heap.size w3 w4 → (w4.cell? ⟨p, 2, none⟩ = some (.slice (some ad) 3 x2) ∧ w4.cell? ⟨ad.block, ad.off + 3, none⟩ = some (.int .i64 y.f0) ∧ w4.cell? ⟨ad.block, ad.off + 3 + 1, none⟩ = some (.slice Y1 y.f1.length y1) ∧ w4.cell? ⟨ad.block, ad.off + 3 + 2, none⟩ = some (.slice Y2 y.f2.length y2)) ∧ Below w.heap.size w w4) := by
 have hB3 : Below w.heap.size w w3 := (show Below w.heap.size w w.drew from (Below.refl _ _).drew).trans hB3'
 have hall : ∀ w4, Below w.heap.size w w4 → (w4.cell? ⟨p, 2, none⟩ = some (.slice (some ad) 3 x2) ∧ w4.cell? ⟨ad.block, ad.off + 3, none⟩ = some (.int .i64 y.f0) ∧ w4.cell? ⟨ad.block, ad.off + 3 + 1, none⟩ = some (.slice Y1 y.f1.length y1) ∧ w4.cell? ⟨ad.block, ad.off + 3 + 2, none⟩ = some (.slice Y2 y.f2.length y2)) := fun w4 hB =>
  ⟨Lib.cell_of_heap ((hB.block _ (heap_lt hp)).trans hp) 2, (hB.cell (World.block_lt_of_cell? w _ u0)).trans u0, (hB.cell (World.block_lt_of_cell? w _ u1)).trans u1, (hB.cell (World.block_lt_of_cell? w _ u2)).trans u2⟩
 refine ⟨hall w3 hB3, same_walk y (algT 11) hy (fun _ => size_alg11) Y1 y1 Y2 y2 M1 m1 M2 m2 w3 (hny.below hB3) hm, fun w4 hB4 => ?_⟩
 have hB := hB3.trans (hB4.mono hB3.size)
 exact ⟨hall w4 hB, hB⟩

set_option maxHeartbeats 4000000 in
set_option maxRecDepth 100000 in
theorem open1_tag (x : T) (p q : Nat) (w : World) (X1 : Option Addr) (x1 : Nat) (X2 : Option Addr) (x2 : Nat) (tp : TypeId) (hp : w.heap[p]? = some (.cells #[.int .i64 x.f0, .slice X1 x.f1.length x1, .slice X2 x.f2.length x2] tp (0, 0))) (h : x.f0 ≠ 48 ∨ x.f2.length ≠ 3) :
 Calls Try.prog 21 #[.pointer (some ⟨p, 0, none⟩), .pointer (some ⟨q, 0, none⟩)] w fun e w' => e = gone 2 ∧ Below w.heap.size w w' := by
 have a0 := Lib.cell_of_heap hp 0
 have a2 := Lib.cell_of_heap hp 2
 by_cases h0 : x.f0 = 48
 ·have hl : x.f2.length ≠ 3 := by rcases h with h | h; exact absurd h0 h; exact h
  have hl1 : ((x.f2.length : Int) == 3) = false := beq_eq_false_iff_ne.2 (by omega)
  rw [h0] at a0
  clear h hl h0 hp
  go_enter Try.func21, Try.ntmps21
  go_wp2_with (fail)
  refine (must2_no 0 false (.inr rfl) _).mono ?_
  rintro e w2 ⟨rfl, rfl⟩
  exact ⟨rfl, rfl, Below.refl _ _⟩
 ·have h1 := eq_false h0
  have h2 : decide (x.f0 = 48) = false := decide_eq_false h0
  clear h h0 hp
  go_enter Try.func21, Try.ntmps21
  go_wp2_with (fail)
  refine (must2_no 0 false (.inr rfl) _).mono ?_
  rintro e w2 ⟨rfl, rfl⟩
  exact ⟨rfl, rfl, Below.refl _ _⟩

set_option maxHeartbeats 4000000 in
set_option maxRecDepth 100000 in
theorem open1_three (a y z : T) (body : List Int) (p q : Nat) (w : World) (X1 : Option Addr) (x1 : Nat) (X2 : Option Addr) (x2 : Nat) (tp tq : TypeId) (s0 : Value) (hp : w.heap[p]? = some (.cells #[.int .i64 48, .slice X1 body.length x1, .slice X2 3 x2] tp (0, 0))) (hq : w.heap[q]? = some (.cells #[s0] tq (0, 0)))
 (hk : k25.C w X2 3 [a, y, z]) (hy : rightT y = true → sizeT y ≤ 100000000) (hv : ∀ v ∈ z.f1, 0 ≤ v ∧ v < 256) (hl : z.f1.length ≤ 1000000) :
 Calls Try.prog 21 #[.pointer (some ⟨p, 0, none⟩), .pointer (some ⟨q, 0, none⟩)] w (Open1Post w ⟨48, body, [a, y, z]⟩ q) := by
 obtain ⟨ad, Y1, y1, Y2, y2, rfl, u0, u1, u2, l1, i1, l2, i2⟩ := at_T25 hk 1 (by omega) (by omega)
 obtain ⟨ad', Z1, z1, Z2, z2, e', v0, v1, v2, m1, j1, m2, j2⟩ := at_T25 hk 2 (by omega) (by omega)
 injection e' with e'
 subst e'
 have hry : rd_T25 [a, y, z] 1 = y := rfl
 have hrz : rd_T25 [a, y, z] 2 = z := rfl
 rw [hry] at u0 u1 u2 l1 i1 l2 i2
 rw [hrz] at v0 v1 v2 m1 j1 m2 j2
 have hny : NodeAt w y Y1 y1 Y2 y2 := ⟨i1, l1, i2, l2⟩
 have hnz : NodeAt w z Z1 z1 Z2 z2 := ⟨j1, m1, j2, m2⟩
 have t1 : Int.toNat 1 = 1 := rfl
 have t2 : Int.toNat 2 = 2 := rfl
 rw [t1] at u0 u1 u2
 rw [t2] at v0 v1 v2
 replace u0 : w.cell? ⟨ad.block, ad.off + 3, none⟩ = some (.int .i64 y.f0) := u0
 replace u1 : w.cell? ⟨ad.block, ad.off + 3 + 1, none⟩ = some (.slice Y1 y.f1.length y1) := u1
 replace u2 : w.cell? ⟨ad.block, ad.off + 3 + 2, none⟩ = some (.slice Y2 y.f2.length y2) := u2
 replace v0 : w.cell? ⟨ad.block, ad.off + 6, none⟩ = some (.int .i64 z.f0) := v0
 replace v1 : w.cell? ⟨ad.block, ad.off + 6 + 1, none⟩ = some (.slice Z1 z.f1.length z1) := v1
 replace v2 : w.cell? ⟨ad.block, ad.off + 6 + 2, none⟩ = some (.slice Z2 z.f2.length z2) := v2
 have a0 := Lib.cell_of_heap hp 0
 have a2 := Lib.cell_of_heap hp 2
 have z0' : (w.heap[p]? = some (.cells #[.int .i64 48, .slice X1 body.length x1, .slice (some ad) 3 x2] tp (0, 0))) := hp
 have HP := Lib.hid hp
 have HQ := Lib.hid hq
 have HNZ := Lib.hid hnz
 have HV := Lib.hid (And.intro v0 (And.intro v1 v2))
 have HZ := Lib.hid (And.intro hv hl)
 have HR1 := Lib.hid (fun (w3 : World) (M1 : Option Addr) (m1 : Nat) (M2 : Option Addr) (m2 : Nat) (hm : NodeAt w3 (algT 11) M1 m1 M2 m2) (hB3 : Below w.drew.heap.size w.drew w3) =>
  open1_chain (w := w) hp u0 u1 u2 hny hy hm hB3)
 have b0 : w.drew.cell? ⟨p, 2, none⟩ = some (.slice (some ad) 3 x2) := a2
 have b1 : w.drew.cell? ⟨ad.block, ad.off + 3, none⟩ = some (.int .i64 y.f0) := u0
 have b2 : w.drew.cell? ⟨ad.block, ad.off + 3 + 1, none⟩ = some (.slice Y1 y.f1.length y1) := u1
 have b3 : w.drew.cell? ⟨ad.block, ad.off + 3 + 2, none⟩ = some (.slice Y2 y.f2.length y2) := u2
 generalize hPP : Open1Post w ⟨48, body, [a, y, z]⟩ q = PP
 clear hk hy hv hl i1 i2 j1 j2 l1 l2 m1 m2 hny hnz hp hq z0' u0 u1 u2 v0 v1 v2 hry hrz t1 t2
 cases hsm : sameP y (algT 11) with
 | false =>
  have hp : PP = fun e w' => e = gone 2 ∧ Below w.heap.size w w' := by
   rw [← hPP]; funext e w'; unfold Open1Post openSig; simp only []; rw [if_neg (by rw [hsm]; simp)]
  clear hPP
  subst hp
  rw [hsm] at HR1
  clear hsm
  go_enter Try.func21, Try.ntmps21
  go_wp2_with (fail)
  refine (must2_yes _).mono ?_
  rintro e w2 ⟨rfl, rfl⟩
  go_wp2
  refine start_ (n := 7) (S := fun w' => w'.cell? ⟨p, 2, none⟩ = some (.slice (some ad) 3 x2) ∧ w'.cell? ⟨ad.block, ad.off + 3, none⟩ = some (.int .i64 y.f0) ∧ w'.cell? ⟨ad.block, ad.off + 3 + 1, none⟩ = some (.slice Y1 y.f1.length y1) ∧ w'.cell? ⟨ad.block, ad.off + 3 + 2, none⟩ = some (.slice Y2 y.f2.length y2)) (ds := []) #[false, false, false, false, false, false, false] (by kernel_rfl) rfl rfl ⟨b0, b1, b2, b3⟩ (fun hHeld => ?_)
  refine pure_ (i := 0) (N := some 15) (v := ?_) (a' := ?_) #[true, false, false, false, false, false, false] rfl rfl (by kernel_rfl) (fun _ _ _ h => h) (Or.inl ⟨by rfl, ?_⟩) ?_ ?_
  rotate_left
  ·intro w'
   go_simp
   with_reducible rfl
  rotate_left
  ·simp only [Act.put, List.setIfInBounds_toArray, List.set_cons_zero, List.set_cons_succ, i64_w, i32_w]
   rfl
  refine take_ (i := 1) (N := some 16) (v := ?_) (a' := ?_) #[true, true, false, false, false, false, false] rfl rfl (by kernel_rfl) (fun _ _ _ h => h) (Or.inl ⟨by rfl, ?_⟩) hHeld ?_ ?_
  rotate_left
  ·rintro w' ⟨s0, s1, s2, s3⟩
   go_simp
   with_reducible rfl
  rotate_left
  ·simp only [Act.put, List.setIfInBounds_toArray, List.set_cons_zero, List.set_cons_succ, i64_w, i32_w]
   rfl
  refine pure_ (i := 2) (N := some 17) (v := ?_) (a' := ?_) #[true, true, true, false, false, false, false] rfl rfl (by kernel_rfl) (fun _ _ _ h => h) (Or.inl ⟨by rfl, ?_⟩) ?_ ?_
  rotate_left
  ·intro w'
   go_simp
   with_reducible rfl
  rotate_left
  ·simp only [Act.put, List.setIfInBounds_toArray, List.set_cons_zero, List.set_cons_succ, i64_w, i32_w]
   rfl
  refine take_ (i := 3) (N := some 18) (v := ?_) (a' := ?_) #[true, true, true, true, false, false, false] rfl rfl (by kernel_rfl) (fun _ _ _ h => h) (Or.inl ⟨by rfl, ?_⟩) hHeld ?_ ?_
  rotate_left
  ·rintro w' ⟨s0, s1, s2, s3⟩
   go_simp
   with_reducible rfl
  rotate_left
  ·simp only [Act.put, List.setIfInBounds_toArray, List.set_cons_zero, List.set_cons_succ, i64_w, i32_w]
   rfl
  refine one_ (i := 4) (N := some 19) #[true, true, true, true, true, false, false] rfl rfl (by kernel_rfl) (by decide) (fun K hK => ?_)
  refine goes_ Try.func14 (by kernel_rfl) rfl #[.int .u32 11] (by rfl) rfl rfl (by (try simp only [List.map_toArray, List.map_cons, List.map_nil]); first | done | rfl) ?_
  refine (made_walk 11 oid_f11 _).mono ?_
  rintro e w3 ⟨v1, v2, rfl, ho3, hb3⟩
  refine ⟨_, rfl, ?_⟩
  obtain ⟨M1, m1, M2, m2, rfl, rfl, hm⟩ := ho3.form
  have HF := Lib.hid (HR1.out w3 M1 m1 M2 m2 hm hb3)
  clear ho3 hb3 hm
  refine hK.out _ _ HF.out.1 (fun hHeld => ?_)
  clear hK K
  refine norm_ (a' := ?_) ?_ ?_
  rotate_left
  ·show Act.put _ (some 19) _ = _
   simp only [Act.put, List.setIfInBounds_toArray, List.set_cons_zero, List.set_cons_succ, i64_w, i32_w]
   rfl
  refine one_ (i := 5) (N := some 20) #[true, true, true, true, true, true, false] rfl rfl (by kernel_rfl) (by decide) (fun K hK => ?_)
  refine goes_ Try.func23 (by kernel_rfl) rfl #[.agg #[.int .i64 y.f0, .slice Y1 y.f1.length y1, .slice Y2 y.f2.length y2], .agg #[.int .i64 48, .slice M1 0 m1, .slice M2 2 m2]] (by rfl) rfl rfl (by (try simp only [List.map_toArray, List.map_cons, List.map_nil]); first | done | rfl) ?_
  refine (HF.out.2.1).mono ?_
  rintro e w4 ⟨rfl, hB4⟩
  refine ⟨_, rfl, ?_⟩
  have HG := Lib.hid (HF.out.2.2 w4 hB4)
  clear hB4
  refine hK.out _ _ HG.out.1 (fun hHeld => ?_)
  clear hK K
  refine norm_ (a' := ?_) ?_ ?_
  rotate_left
  ·show Act.put _ (some 20) _ = _
   simp only [Act.put, List.setIfInBounds_toArray, List.set_cons_zero, List.set_cons_succ, i64_w, i32_w]
   rfl
  refine one_ (i := 6) (N := some 21) #[true, true, true, true, true, true, true] rfl rfl (by kernel_rfl) (by decide) (fun K hK => ?_)
  refine dies_ Try.func22 (by kernel_rfl) rfl #[.int .i64 0, .bool false] (by rfl) rfl (by (try simp only [List.map_toArray, List.map_cons, List.map_nil]); first | done | rfl) ?_
  refine (must2_no 0 false (.inr rfl) _).mono ?_
  rintro e w5 ⟨rfl, rfl⟩
  refine ⟨_, rfl, ?_⟩
  exact ⟨rfl, rfl, HG.out.2⟩
 | true =>
  rw [hsm] at HR1
  go_enter Try.func21, Try.ntmps21
  go_wp2_with (fail)
  refine (must2_yes _).mono ?_
  rintro e w2 ⟨rfl, rfl⟩
  go_wp2
  refine start_ (n := 7) (S := fun w' => w'.cell? ⟨p, 2, none⟩ = some (.slice (some ad) 3 x2) ∧ w'.cell? ⟨ad.block, ad.off + 3, none⟩ = some (.int .i64 y.f0) ∧ w'.cell? ⟨ad.block, ad.off + 3 + 1, none⟩ = some (.slice Y1 y.f1.length y1) ∧ w'.cell? ⟨ad.block, ad.off + 3 + 2, none⟩ = some (.slice Y2 y.f2.length y2)) (ds := []) #[false, false, false, false, false, false, false] (by kernel_rfl) rfl rfl ⟨b0, b1, b2, b3⟩ (fun hHeld => ?_)
  refine pure_ (i := 0) (N := some 15) (v := ?_) (a' := ?_) #[true, false, false, false, false, false, false] rfl rfl (by kernel_rfl) (fun _ _ _ h => h) (Or.inl ⟨by rfl, ?_⟩) ?_ ?_
  rotate_left
  ·intro w'
   go_simp
   with_reducible rfl
  rotate_left
  ·simp only [Act.put, List.setIfInBounds_toArray, List.set_cons_zero, List.set_cons_succ, i64_w, i32_w]
   rfl
  refine take_ (i := 1) (N := some 16) (v := ?_) (a' := ?_) #[true, true, false, false, false, false, false] rfl rfl (by kernel_rfl) (fun _ _ _ h => h) (Or.inl ⟨by rfl, ?_⟩) hHeld ?_ ?_
  rotate_left
  ·rintro w' ⟨s0, s1, s2, s3⟩
   go_simp
   with_reducible rfl
  rotate_left
  ·simp only [Act.put, List.setIfInBounds_toArray, List.set_cons_zero, List.set_cons_succ, i64_w, i32_w]
   rfl
  refine pure_ (i := 2) (N := some 17) (v := ?_) (a' := ?_) #[true, true, true, false, false, false, false] rfl rfl (by kernel_rfl) (fun _ _ _ h => h) (Or.inl ⟨by rfl, ?_⟩) ?_ ?_
  rotate_left
  ·intro w'
   go_simp
   with_reducible rfl
  rotate_left
  ·simp only [Act.put, List.setIfInBounds_toArray, List.set_cons_zero, List.set_cons_succ, i64_w, i32_w]
   rfl
  refine take_ (i := 3) (N := some 18) (v := ?_) (a' := ?_) #[true, true, true, true, false, false, false] rfl rfl (by kernel_rfl) (fun _ _ _ h => h) (Or.inl ⟨by rfl, ?_⟩) hHeld ?_ ?_
  rotate_left
  ·rintro w' ⟨s0, s1, s2, s3⟩
   go_simp
   with_reducible rfl
  rotate_left
  ·simp only [Act.put, List.setIfInBounds_toArray, List.set_cons_zero, List.set_cons_succ, i64_w, i32_w]
   rfl
  refine one_ (i := 4) (N := some 19) #[true, true, true, true, true, false, false] rfl rfl (by kernel_rfl) (by decide) (fun K hK => ?_)
  refine goes_ Try.func14 (by kernel_rfl) rfl #[.int .u32 11] (by rfl) rfl rfl (by (try simp only [List.map_toArray, List.map_cons, List.map_nil]); first | done | rfl) ?_
  refine (made_walk 11 oid_f11 _).mono ?_
  rintro e w3 ⟨v1, v2, rfl, ho3, hb3⟩
  refine ⟨_, rfl, ?_⟩
  obtain ⟨M1, m1, M2, m2, rfl, rfl, hm⟩ := ho3.form
  have HF := Lib.hid (HR1.out w3 M1 m1 M2 m2 hm hb3)
  clear ho3 hb3 hm
  refine hK.out _ _ HF.out.1 (fun hHeld => ?_)
  clear hK K
  refine norm_ (a' := ?_) ?_ ?_
  rotate_left
  ·show Act.put _ (some 19) _ = _
   simp only [Act.put, List.setIfInBounds_toArray, List.set_cons_zero, List.set_cons_succ, i64_w, i32_w]
   rfl
  refine one_ (i := 5) (N := some 20) #[true, true, true, true, true, true, false] rfl rfl (by kernel_rfl) (by decide) (fun K hK => ?_)
  refine goes_ Try.func23 (by kernel_rfl) rfl #[.agg #[.int .i64 y.f0, .slice Y1 y.f1.length y1, .slice Y2 y.f2.length y2], .agg #[.int .i64 48, .slice M1 0 m1, .slice M2 2 m2]] (by rfl) rfl rfl (by (try simp only [List.map_toArray, List.map_cons, List.map_nil]); first | done | rfl) ?_
  refine (HF.out.2.1).mono ?_
  rintro e w4 ⟨rfl, hB4⟩
  refine ⟨_, rfl, ?_⟩
  have HG := Lib.hid (HF.out.2.2 w4 hB4)
  clear hB4
  refine hK.out _ _ HG.out.1 (fun hHeld => ?_)
  clear hK K
  refine norm_ (a' := ?_) ?_ ?_
  rotate_left
  ·show Act.put _ (some 20) _ = _
   simp only [Act.put, List.setIfInBounds_toArray, List.set_cons_zero, List.set_cons_succ, i64_w, i32_w]
   rfl
  refine one_ (i := 6) (N := some 21) #[true, true, true, true, true, true, true] rfl rfl (by kernel_rfl) (by decide) (fun K hK => ?_)
  refine goes_ Try.func22 (by kernel_rfl) rfl #[.int .i64 0, .bool true] (by rfl) rfl rfl (by (try simp only [List.map_toArray, List.map_cons, List.map_nil]); first | done | rfl) ?_
  refine (must2_yes _).mono ?_
  rintro e w5 ⟨rfl, rfl⟩
  refine ⟨_, rfl, ?_⟩
  refine hK.out _ _ HG.out.1 (fun hHeld => ?_)
  clear hK K
  refine norm_ (a' := ?_) ?_ ?_
  rotate_left
  ·show Act.put _ (some 21) _ = _
   simp only [Act.put, List.setIfInBounds_toArray, List.set_cons_zero, List.set_cons_succ, i64_w, i32_w]
   rfl
  refine done_ (by kernel_rfl) ?_
  have hBw := HG.out.2
  have a2' := HG.out.1.1
  have v0 := (hBw.cell (World.block_lt_of_cell? _ _ HV.out.1)).trans HV.out.1
  have v1 := (hBw.cell (World.block_lt_of_cell? _ _ HV.out.2.1)).trans HV.out.2.1
  have v2 := (hBw.cell (World.block_lt_of_cell? _ _ HV.out.2.2)).trans HV.out.2.2
  have HOF := Lib.hid (sig_walk z HZ.out.1 HZ.out.2 Z1 z1 Z2 z2 w5 (HNZ.out.below hBw))
  have hq5 := (hBw.block _ (heap_lt HQ.out)).trans HQ.out
  have HQ5 := Lib.hid hq5
  have HBW := Lib.hid hBw
  clear hBw hq5 HF HG HR1 b0 b1 b2 b3 a0 a2 hHeld
  go_wp2_with (fail)
  refine HOF.out.mono ?_
  rintro e w6 ⟨⟨A, l, cc, m, f, rfl, hcase⟩, hB6⟩
  have hq6 := (hB6.block _ (heap_lt HQ5.out)).trans HQ5.out
  have hBw6 := HBW.out.trans (hB6.mono HBW.out.size)
  have q0 := Lib.cell_of_heap hq6 0
  have fq0 := Lib.frozen_of_heap hq6 0
  have HBW6 := Lib.hid hBw6
  have HB6 := Lib.hid HBW.out.size
  clear hq6 hBw6 hB6 HOF v0 v1 v2 a2'
  have HSM := Lib.hid hsm
  clear hsm
  rcases hcase with ⟨hf, hs⟩ | ⟨rfl, hm, hs⟩ | ⟨rfl, rfl, t, hs, rfl, hR⟩
  ·have hp : PP = fun e w' => e = gone 2 ∧ Below w2.heap.size w2 w' := by
    rw [← hPP]; funext e w'; unfold Open1Post openSig; simp only []; rw [if_pos ⟨trivial, HSM.out⟩, hs]
   clear hPP hs
   subst hp
   have HF := Lib.hid hf
   clear hf
   go_wp2_with (fail)
   refine (must2_no f _ (.inl HF.out) _).mono ?_
   rintro e w7 ⟨rfl, rfl⟩
   exact ⟨rfl, rfl, HBW6.out⟩
  ·have hp : PP = fun e w' => e = gone 2 ∧ Below w2.heap.size w2 w' := by
    rw [← hPP]; funext e w'; unfold Open1Post openSig; simp only []; rw [if_pos ⟨trivial, HSM.out⟩, hs]
   clear hPP hs
   subst hp
   have HM := Lib.hid hm
   clear hm
   go_wp2_with (fail)
   refine (must2_no 0 _ (.inr (beq_eq_false_iff_ne.2 HM.out)) _).mono ?_
   rintro e w7 ⟨rfl, rfl⟩
   exact ⟨rfl, rfl, HBW6.out⟩
  ·have hp : PP = fun e w' => e = .returned (.tuple #[]) ∧ ∃ w6 A c, Below w2.heap.size w2 w6 ∧ w' = w6.setCell ⟨q, 0, none⟩ (.slice A t.length c) ∧ (Kd.int .u8).R 5 w6 w2.heap.size (fun _ => True) (.slice A t.length c) t := by
    rw [← hPP]; funext e w'; unfold Open1Post openSig; simp only []; rw [if_pos ⟨trivial, HSM.out⟩, hs]
   clear hPP hs
   subst hp
   have HR := Lib.hid (Kd.R_lower hR HB6.out)
   clear hR
   go_wp2_with (fail)
   refine (must2_yes _).mono ?_
   rintro e w7 ⟨rfl, rfl⟩
   go_wp2
   go_end0
   exact ⟨rfl, _, A, cc, HBW6.out, rfl, HR.out⟩

end Go.Proofs.Ytmbgjhkemlliaaa.Tlv
end

/- spki.wrong: a closure's panic becomes an error. -/
section
set_option linter.unusedVariables false
set_option linter.unusedSimpArgs false
namespace Go.Proofs.Ytmbgjhkemlliaaa.Tlv
open Go.RowKit Go.Proofs.YtmbgjhkemlliaaaW.PrintWords Go.Proofs.YtmbgjhkemlliaaaW.PrintLast Go.Proofs.YtmbgjhkemlliaaaW.PrintMore Go.Proofs.Ytmbgjhkemlliaaa.PT
attribute [local go_sem] as_yes as_no

set_option maxHeartbeats 1000000 in
theorem wcatch_panicking (B : Nat) (x : Int) (w : World) (c0 : (w.cell? ⟨B, 0, none⟩).isSome = true) (f0 : w.frozen? ⟨B, 0, none⟩ = false) :
 CallsD Try.prog 39 #[.pointer (some ⟨B, 0, none⟩)] (.panicking [{ v := .iface 28 (.int .i64 x), recovered := false }]) w fun e u' w' =>
  e = .returned (.tuple #[]) ∧ u' = .panicking [{ v := .iface 28 (.int .i64 x), recovered := true }] ∧ w' = w.setCell ⟨B, 0, none⟩ (.int .i64 x) := by
 refine callsD_of_wpS Try.func39 rfl fun c₀ cs hu => ?_
 apply wpS_seq
 apply wpS_region
 simp [wpOpsS, go_sem, recoverD, hu, Try.ntmps39, Exit.thenS]
 apply wpS_seq
 apply wpS_region
 simp [wpOpsS, go_sem, Exit.thenS]
 refine wpS_cond (t := true) (by simp [Act.eval, Array.replicate]) ?_
 simp only [if_true]
 refine wpS_of_wp ?_
 obtain ⟨x0, e0⟩ := Option.isSome_iff_exists.1 c0
 clear c0
 go_wp2
 cases c₀
 simp_all [bodyPostS, results, Try.results39]

set_option maxHeartbeats 1000000 in
theorem wcatch_idle (B : Nat) (w : World) :
 CallsD Try.prog 39 #[.pointer (some ⟨B, 0, none⟩)] .returning w fun e u' w' => e = .returned (.tuple #[]) ∧ u' = .returning ∧ w' = w := by
 refine callsD_of_wpS Try.func39 rfl fun c₀ cs hu => ?_
 apply wpS_seq
 apply wpS_region
 simp [wpOpsS, go_sem, recoverD, hu, Try.ntmps39, Exit.thenS]
 apply wpS_seq
 apply wpS_region
 simp [wpOpsS, go_sem, Exit.thenS]
 refine wpS_cond (t := false) (by simp [Act.eval, Array.replicate]) ?_
 simp only [Bool.false_eq_true, if_false]
 refine wpS_of_wp (wp_skip ?_)
 cases c₀
 simp_all [bodyPostS, results, Try.results39]

set_option maxHeartbeats 4000000 in
set_option maxRecDepth 100000 in
theorem wdoor (x : Int) (w w4 : World) (R : Int → World → Prop) (hR : R x w4) (tmps : Array Value) (n0 : Value) (h2 : w4.heap[w.heap.size]? = some (.cells #[n0] 28 (0, 0))) (ht2 : tmps[2]? = some (.pointer (some ⟨w.heap.size, 0, none⟩))) :
 bodyPostD Try.prog Try.f20 (fun e w' => ∃ x w2, e = .returned (.int .i64 x) ∧ R x w2 ∧ w' = w2.setCell ⟨w.heap.size, 0, none⟩ (.int .i64 x)) (Exit.panic [{ v := .iface 28 (.int .i64 x), recovered := false }])
  { tmps := tmps, defers := [{ target := .fn (.func 39) #[.pointer (some ⟨w.heap.size, 0, none⟩)], args := #[] }] } w4 := by
 refine leaves_cons (f := 39) (args := #[.pointer (some ⟨w.heap.size, 0, none⟩)]) (by simp) (by simp [go_sem]) ?_
 have a0 := Lib.cell_of_heap h2 0
 refine (wcatch_panicking w.heap.size x w4 (by rw [a0]; rfl) (Lib.frozen_of_heap h2 0)).mono ?_
 rintro e u' w'' ⟨rfl, rfl, rfl⟩
 simp [Leaves, settle, results, Try.results20, go_sem, a0, ht2]
 exact ⟨_, hR, rfl⟩

set_option maxHeartbeats 4000000 in
set_option maxRecDepth 100000 in
theorem wdoor_ret (w w2 : World) (R : Int → World → Prop) (hR : R 0 w2) (tmps : Array Value) (n0 : Value) (h2 : w2.heap[w.heap.size]? = some (.cells #[n0] 28 (0, 0))) (ht2 : tmps[2]? = some (.pointer (some ⟨w.heap.size, 0, none⟩))) :
 bodyPostD Try.prog Try.f20 (fun e w' => ∃ x w2, e = .returned (.int .i64 x) ∧ R x w2 ∧ w' = w2.setCell ⟨w.heap.size, 0, none⟩ (.int .i64 x)) Exit.ret
  { tmps := tmps, defers := [{ target := .fn (.func 39) #[.pointer (some ⟨w.heap.size, 0, none⟩)], args := #[] }] } (w2.setCell ⟨w.heap.size, 0, none⟩ (.int .i64 0)) := by
 have a0 : (w2.setCell ⟨w.heap.size, 0, none⟩ (.int .i64 0)).cell? ⟨w.heap.size, 0, none⟩ = some (.int .i64 0) := Lib.cell_of_heap (heap_setCell_same _ _ 0 _ _ _ h2) 0
 refine leaves_cons (f := 39) (args := #[.pointer (some ⟨w.heap.size, 0, none⟩)]) (by simp) (by simp [go_sem]) ?_
 refine (wcatch_idle w.heap.size _).mono ?_
 rintro e u' w'' ⟨rfl, rfl, rfl⟩
 generalize hW : w2.setCell ⟨w.heap.size, 0, none⟩ (.int .i64 0) = W at a0
 simp only [Leaves, settle, results, Try.results20]
 simp [go_sem, a0, ht2]
 exact ⟨w2, hR, hW.symm⟩

set_option maxHeartbeats 4000000 in
set_option maxRecDepth 100000 in
theorem wrong_walk (p q : Nat) (w : World) (R : Int → World → Prop)
 (H : Calls Try.prog 21 #[.pointer (some ⟨p, 0, none⟩), .pointer (some ⟨q, 0, none⟩)] (w.alloc (.cells #[.int .i64 0] 28)) fun e w2 => ((e = .returned (.tuple #[]) ∧ R 0 w2) ∨ (∃ x, e = gone x ∧ R x w2)) ∧ w2.heap[w.heap.size]? = some (.cells #[.int .i64 0] 28 (0, 0))) :
 Calls Try.prog 20 #[.func (.func 21) #[] #[.pointer (some ⟨p, 0, none⟩), .pointer (some ⟨q, 0, none⟩)]] w fun e w' => ∃ x w2, e = .returned (.int .i64 x) ∧ R x w2 ∧ w' = w2.setCell ⟨w.heap.size, 0, none⟩ (.int .i64 x) := by
 have hmf : ∀ (fn : Fn) (first cap : Array Value) (w : World), (Instr.makeFunc fn first cap).run Try.prog w = .ok (.func fn first cap) w := fun _ _ _ _ => rfl
 have HH := Lib.hid H
 clear H
 go_enter_defers Try.func20, Try.ntmps20
 go_wp2_with (fail)
 refine HH.out.mono ?_
 rintro e w2 ⟨hq, h2⟩
 rcases hq with ⟨rfl, hR⟩ | ⟨x, rfl, hR⟩
 ·have a0 := Lib.cell_of_heap h2 0
  have f0 := Lib.frozen_of_heap h2 0
  have H2 := Lib.hid h2
  have HR := Lib.hid hR
  clear h2 hR HH
  go_wp2
  exact wdoor_ret w w2 R HR.out _ _ H2.out rfl
 ·exact wdoor x w w2 R hR _ _ h2 rfl

end Go.Proofs.Ytmbgjhkemlliaaa.Tlv
end

/- spki.Open, walked. -/
section
set_option linter.unusedVariables false
set_option linter.unusedSimpArgs false
namespace Go.Proofs.Ytmbgjhkemlliaaa.Tlv
open Go.RowKit Go.Proofs.YtmbgjhkemlliaaaW.PrintWords Go.Proofs.YtmbgjhkemlliaaaW.PrintLast Go.Proofs.YtmbgjhkemlliaaaW.PrintMore Go.Proofs.Ytmbgjhkemlliaaa.PT

def saidP (a : T) : List Int := match writeP a with
 | .ok l => l
 | .err _ => []
def openP (b : List Int) : Res (T × List Int × List Int) := match readP b with
 | .err e => .err e
 | .ok x => match openSig x with
  | none => .err 2
  | some (a, t) => .ok (a, saidP a, t)
def OpenPost (w : World) (b : List Int) (e : Ending) (w' : World) : Prop := match openP b with
 | .err x => e = .returned (.tuple #[.agg #[.int .i64 0, .slice none 0 0, .slice none 0 0], .slice none 0 0, .slice none 0 0, .int .i64 x]) ∧ Below w.heap.size w w'
 | .ok (a, s, t) => ∃ A1 c1 A2 c2 S cs G cg, e = .returned (.tuple #[.agg #[.int .i64 a.f0, .slice A1 a.f1.length c1, .slice A2 a.f2.length c2], .slice S s.length cs, .slice G t.length cg, .int .i64 0]) ∧ NodeAt w' a A1 c1 A2 c2 ∧ ReadsInt w' .u8 S s.length s ∧ s.length ≤ cs ∧ ReadsInt w' .u8 G t.length t ∧ t.length ≤ cg ∧ Below w.heap.size w w'

theorem readP_ok {b : List Int} {x : T} (hb : ∀ v ∈ b, 0 ≤ v ∧ v < 256) (h : readP b = .ok x) : b = encT x ∧ rightT x = true ∧ sizeT x = (b.length : Int) ∧ deepT x ≤ 32 ∧ b.length ≤ 20000 := by
 unfold readP at h
 split at h
 ·cases h
 ·cases he : elemP (b.length + 1) 0 3 b with
  | err e => rw [he] at h; cases h
  | ok p =>
   obtain ⟨t, r⟩ := p
   rw [he] at h
   simp only at h
   split at h
   ·injection h with h
    subst h
    rename_i hr
    obtain ⟨e1, e2, e3, e4⟩ := elemP_ok _ _ _ _ _ _ hb he
    rw [hr, List.append_nil] at e1
    exact ⟨e1, e2, by rw [e3, ← e1], by omega, by omega⟩
   ·cases h
/-- A part's own bytes are among those of the whole. -/
theorem body_in (z : T) (hr : rightT z = true) : ∀ v ∈ z.f1, v ∈ encT z := by
 obtain ⟨tag, body, kids⟩ := z
 intro v hv
 dsimp only at hv
 rw [rightT, Bool.and_eq_true, Bool.and_eq_true] at hr
 rw [encT]
 by_cases hH : holdsB tag = true
 ·rw [if_pos hH] at hr
  have := of_decide_eq_true hr.1.2
  rw [this] at hv
  cases hv
 ·rw [if_neg hH]
  exact List.mem_append_right _ hv
theorem kid_in : ∀ (l : List T) (t : T), t ∈ l → ∀ v ∈ encT t, v ∈ encL l
 | [], _, h => by cases h
 | u :: l, t, h => by
  intro v hv
  rw [encL]
  rcases List.mem_cons.1 h with rfl | h
  ·exact List.mem_append_left _ hv
  ·exact List.mem_append_right _ (kid_in l t h v hv)
theorem kid_size : ∀ (l : List T) (t : T), t ∈ l → sizeT t ≤ sizeL l
 | [], _, h => by cases h
 | u :: l, t, h => by
  rw [sizeL]
  have h1 := manyL_le l
  have h2 := many_le u
  rcases List.mem_cons.1 h with rfl | h
  ·omega
  ·have := kid_size l t h; omega
theorem kid_deep : ∀ (l : List T) (t : T), t ∈ l → deepT t ≤ deepL l
 | [], _, h => by cases h
 | u :: l, t, h => by
  rw [deepL]
  rcases List.mem_cons.1 h with rfl | h
  ·omega
  ·have := kid_deep l t h; omega
theorem kids_parts (x : T) (h : rightT x = true) (t : T) (ht : t ∈ x.f2) : rightT t = true ∧ sizeT t ≤ sizeT x ∧ (∀ v ∈ encT t, v ∈ encT x) ∧ deepT t ≤ deepT x := by
 obtain ⟨tag, body, kids⟩ := x
 dsimp only at ht
 rw [rightT, Bool.and_eq_true, Bool.and_eq_true] at h
 have hr := (rightL_all kids).1 h.2 t ht
 by_cases hH : holdsB tag = true
 ·have h1 := kid_size kids t ht
  have h2 := headLen_pos (sizeL kids)
  refine ⟨hr, ?_, ?_, ?_⟩
  ·rw [sizeT, if_pos hH]; omega
  ·intro v hv; rw [encT, if_pos hH]; exact List.mem_append_right _ (kid_in kids t ht v hv)
  ·rw [deepT, if_pos hH]; have := kid_deep kids t ht; omega
 ·rw [if_neg hH] at h
  have := of_decide_eq_true h.1.2
  rw [this] at ht
  cases ht

theorem lenP_rest {short : Int} {b r : List Int} {m : Int} (h : lenP short b = .ok (m, r)) : r.length + 1 ≤ b.length := by
 cases b with
 | nil => simp [lenP] at h
 | cons x b =>
  unfold lenP at h
  simp only at h
  split at h
  ·cases b with
   | nil => cases h
   | cons y b =>
    simp only at h
    split at h
    ·injection h with h; injection h with h1 h2; subst h2; simp
    ·cases h
  ·split at h
   ·cases b with
    | nil => cases h
    | cons y b =>
     cases b with
     | nil => cases h
     | cons z b =>
      simp only at h
      split at h
      ·injection h with h; injection h with h1 h2; subst h2; simp
      ·cases h
   ·split at h
    ·injection h with h; injection h with h1 h2; subst h2; simp
    ·cases h
theorem lenP_errs {short : Int} {b : List Int} {e : Int} (h : lenP short b = .err e) : e = short ∨ e = 2 := by
 cases b with
 | nil => simp [lenP] at h; exact .inl h.symm
 | cons x b =>
  unfold lenP at h
  simp only at h
  split at h
  ·cases b with
   | nil => injection h with h; exact .inl h.symm
   | cons y b =>
    simp only at h
    split at h
    ·cases h
    ·injection h with h; exact .inr h.symm
  ·split at h
   ·cases b with
    | nil => injection h with h; exact .inl h.symm
    | cons y b =>
     cases b with
     | nil => injection h with h; exact .inl h.symm
     | cons z b =>
      simp only at h
      split at h
      ·cases h
      ·injection h with h; exact .inr h.symm
   ·split at h
    ·cases h
    ·injection h with h; exact .inr h.symm
theorem elemP_rest {n : Nat} {deep short : Int} {b r : List Int} {t : T} (h : elemP n deep short b = .ok (t, r)) : r.length + 2 ≤ b.length := by
 cases n with
 | zero => simp [elemP] at h
 | succ n =>
  cases b with
  | nil => simp [elemP] at h
  | cons tag b =>
   unfold elemP at h
   split at h
   ·cases hl : lenP short b with
    | err e => rw [hl] at h; cases h
    | ok p =>
     obtain ⟨m, r2⟩ := p
     have hr := lenP_rest hl
     rw [hl] at h
     simp only at h
     split at h
     ·cases h
     ·split at h
      ·cases h
      ·split at h
       ·cases hk : kidsP n (deep + 1) (r2.take m.toNat) with
        | err e => rw [hk] at h; cases h
        | ok l => rw [hk] at h; injection h with h; injection h with h1 h2; subst h2; simp; omega
       ·injection h with h; injection h with h1 h2; subst h2; simp; omega
   ·cases h
mutual
theorem elemP_errs : ∀ (n : Nat) (deep short : Int) (b : List Int) (e : Int), b.length + 1 ≤ n → short ≠ 0 → elemP n deep short b = .err e → e ≠ 0
 | 0, _, _, b, e, hn, _, _ => by omega
 | n + 1, deep, short, [], e, _, hs, h => by
  simp [elemP] at h
  omega
 | n + 1, deep, short, tag :: b, e, hn, hs, h => by
  unfold elemP at h
  split at h
  ·cases hl : lenP short b with
   | err x =>
    rw [hl] at h
    injection h with h
    have := lenP_errs hl
    omega
   | ok p =>
    obtain ⟨m, r2⟩ := p
    have hr := lenP_rest hl
    rw [hl] at h
    simp only at h
    split at h
    ·injection h with h; omega
    ·split at h
     ·injection h with h; omega
     ·split at h
      ·cases hk : kidsP n (deep + 1) (r2.take m.toNat) with
       | err x =>
        rw [hk] at h
        injection h with h
        have := kidsP_errs n (deep + 1) (r2.take m.toNat) x (by simp at hn ⊢; omega) hk
        omega
       | ok l => rw [hk] at h; cases h
      ·cases h
  ·injection h with h; omega
theorem kidsP_errs : ∀ (n : Nat) (deep : Int) (b : List Int) (e : Int), b.length + 2 ≤ n → kidsP n deep b = .err e → e ≠ 0
 | 0, _, b, e, hn, _ => by omega
 | n + 1, deep, [], e, _, h => by simp [kidsP] at h
 | n + 1, deep, x :: b, e, hn, h => by
  unfold kidsP at h
  cases he : elemP n deep 2 (x :: b) with
  | err y =>
   rw [he] at h
   injection h with h
   have := elemP_errs n deep 2 (x :: b) y (by omega) (by decide) he
   omega
  | ok p =>
   obtain ⟨t, r⟩ := p
   have hr := elemP_rest he
   rw [he] at h
   simp only at h
   cases hk : kidsP n deep r with
   | err y =>
    rw [hk] at h
    injection h with h
    have := kidsP_errs n deep r y (by omega) hk
    omega
   | ok l => rw [hk] at h; cases h
end
theorem readP_errs {b : List Int} {e : Int} (h : readP b = .err e) : e ≠ 0 := by
 unfold readP at h
 split at h
 ·injection h with h; omega
 ·cases he : elemP (b.length + 1) 0 3 b with
  | err x =>
   rw [he] at h
   injection h with h
   have := elemP_errs _ _ _ _ _ (Nat.le_refl _) (by decide) he
   omega
  | ok p =>
   obtain ⟨t, r⟩ := p
   rw [he] at h
   simp only at h
   split at h
   ·cases h
   ·injection h with h; omega

theorem openSig_some {x a : T} {t : List Int} (h : openSig x = some (a, t)) : ∃ y z, x.f0 = 48 ∧ x.f2 = [a, y, z] ∧ sameP y (algT 11) = true ∧ sigP z = some t := by
 obtain ⟨tag, body, kids⟩ := x
 unfold openSig at h
 match kids, h with
 | [], h => simp at h
 | [u], h => simp at h
 | [u, y], h => simp at h
 | [u, y, z], h =>
  simp only at h
  split at h
  ·rename_i hc
   cases hs : sigP z with
   | none => rw [hs] at h; cases h
   | some t' =>
    rw [hs] at h
    simp only [Option.some.injEq, Prod.mk.injEq] at h
    obtain ⟨rfl, rfl⟩ := h
    exact ⟨y, z, hc.1, rfl, hc.2, hs⟩
  ·cases h
 | u :: y :: z :: v :: r, h => simp at h
theorem openSig_tag {x : T} (h : x.f0 ≠ 48 ∨ x.f2.length ≠ 3) : openSig x = none := by
 cases ho : openSig x with
 | none => rfl
 | some p =>
  obtain ⟨a, t⟩ := p
  obtain ⟨y, z, h1, h2, _⟩ := openSig_some ho
  rcases h with h | h
  ·exact absurd h1 h
  ·rw [h2] at h; exact absurd rfl h
theorem open1_any (x : T) (p q : Nat) (w : World) (X1 : Option Addr) (x1 : Nat) (X2 : Option Addr) (x2 : Nat) (tp tq : TypeId) (s0 : Value) (hp : w.heap[p]? = some (.cells #[.int .i64 x.f0, .slice X1 x.f1.length x1, .slice X2 x.f2.length x2] tp (0, 0))) (hq : w.heap[q]? = some (.cells #[s0] tq (0, 0)))
 (hn : NodeAt w x X1 x1 X2 x2) (hr : rightT x = true) (hs : sizeT x ≤ 1000000) (hv : ∀ v ∈ encT x, 0 ≤ v ∧ v < 256) :
 Calls Try.prog 21 #[.pointer (some ⟨p, 0, none⟩), .pointer (some ⟨q, 0, none⟩)] w (Open1Post w x q) := by
 by_cases h : x.f0 ≠ 48 ∨ x.f2.length ≠ 3
 ·have he : Open1Post w x q = fun e w' => e = gone 2 ∧ Below w.heap.size w w' := by
   funext e w'; unfold Open1Post; rw [openSig_tag h]
  rw [he]
  exact open1_tag x p q w X1 x1 X2 x2 tp hp h
 ·have h0 : x.f0 = 48 := Classical.byContradiction fun hc => h (.inl hc)
  have h1 : x.f2.length = 3 := Classical.byContradiction fun hc => h (.inr hc)
  have hk := kids_parts x hr
  obtain ⟨tag, body, kids⟩ := x
  dsimp only at h0 h1 hp hk
  subst h0
  match kids, h1, hp, hn, hr, hs, hv, hk with
  | [a, y, z], _, hp, hn, hr, hs, hv, hk =>
   have hy := hk y (by simp)
   have hz := hk z (by simp)
   have hzv : ∀ v ∈ z.f1, 0 ≤ v ∧ v < 256 := fun v hvz => hv v (hz.2.2.1 v (body_in z hz.1 v hvz))
   have hzl : z.f1.length ≤ 1000000 := by
    have h2 : (z.f1.length : Int) ≤ sizeT z := by
     obtain ⟨zt, zb, zk⟩ := z
     have hzr := hz.1
     rw [rightT, Bool.and_eq_true, Bool.and_eq_true] at hzr
     rw [sizeT]
     by_cases hH : holdsB zt = true
     ·rw [if_pos hH] at hzr ⊢
      have := of_decide_eq_true hzr.1.2
      have h4 := manyL_le zk
      have h5 := headLen_pos (sizeL zk)
      rw [this]
      simp
      omega
     ·rw [if_neg hH]
      have h5 := headLen_pos zb.length
      show (zb.length : Int) ≤ _
      omega
    omega
   exact open1_three a y z body p q w X1 x1 X2 x2 tp tq s0 hp hq hn.2.2.1 (fun _ => by omega) hzv hzl

/-- Open's two variables, and the world in which it reads. -/
structure Vars (w W : World) (n0 n1 n2 g : Value) : Prop where
 n : W.heap[w.heap.size]? = some (.cells #[n0, n1, n2] 25 (0, 0))
 g : W.heap[w.heap.size + 1]? = some (.cells #[g] 22 (0, 0))
 b : Below w.heap.size w W
theorem Vars.step {w W W2 : World} {n0 n1 n2 g : Value} (h : Vars w W n0 n1 n2 g) (hb : Below W.heap.size W W2) : Vars w W2 n0 n1 n2 g :=
 ⟨(hb.block _ (heap_lt h.n)).trans h.n, (hb.block _ (heap_lt h.g)).trans h.g, h.b.trans (hb.mono h.b.size)⟩
theorem Vars.setN {w W : World} {n0 n1 n2 g : Value} (h : Vars w W n0 n1 n2 g) (m0 m1 m2 : Value) : Vars w (((W.setCell ⟨w.heap.size, 0, none⟩ m0).setCell ⟨w.heap.size, 1, none⟩ m1).setCell ⟨w.heap.size, 2, none⟩ m2) m0 m1 m2 g :=
 ⟨heap_setCell_same _ _ 2 _ _ _ (heap_setCell_same _ _ 1 _ _ _ (heap_setCell_same _ _ 0 _ _ _ h.n)),
  (heap_setCell_other _ _ _ _ (by show w.heap.size + 1 ≠ w.heap.size; omega)).trans ((heap_setCell_other _ _ _ _ (by show w.heap.size + 1 ≠ w.heap.size; omega)).trans ((heap_setCell_other _ _ _ _ (by show w.heap.size + 1 ≠ w.heap.size; omega)).trans h.g)),
  Below.setCell (Below.setCell (Below.setCell h.b (p := ⟨w.heap.size, 0, none⟩) (Nat.le_refl _) _) (p := ⟨w.heap.size, 1, none⟩) (Nat.le_refl _) _) (p := ⟨w.heap.size, 2, none⟩) (Nat.le_refl _) _⟩
theorem Vars.setG {w W : World} {n0 n1 n2 g : Value} (h : Vars w W n0 n1 n2 g) (m : Value) : Vars w (W.setCell ⟨w.heap.size + 1, 0, none⟩ m) n0 n1 n2 m :=
 ⟨(heap_setCell_other _ _ _ _ (by show w.heap.size ≠ w.heap.size + 1; omega)).trans h.n, heap_setCell_same _ _ 0 _ _ _ h.g, Below.setCell h.b (p := ⟨w.heap.size + 1, 0, none⟩) (Nat.le_succ _) _⟩
theorem Vars.new (w : World) : Vars w ((w.alloc (.cells #[.int .i64 0, .slice none 0 0, .slice none 0 0] 25)).alloc (.cells #[.slice none 0 0] 22)) (.int .i64 0) (.slice none 0 0) (.slice none 0 0) (.slice none 0 0) :=
 ⟨(Below.heap_alloc _ _ _ (by simp)).trans (heap_alloc_new w _), (by have := heap_alloc_new (w.alloc (.cells #[.int .i64 0, .slice none 0 0, .slice none 0 0] 25)) (.cells #[.slice none 0 0] 22); simpa using this), ((Below.refl _ _).alloc (Nat.le_refl _) _).alloc (by simp) _⟩
theorem Vars.outside {w W W2 : World} {n0 n1 n2 g : Value} (h : Vars w W n0 n1 n2 g) (hk : ∀ k, k < W.heap.size → k ≠ w.heap.size + 1 → W2.heap[k]? = W.heap[k]?) (h1 : W2.os = W.os) (h2 : W2.tape = W.tape) (h3 : W2.output = W.output) (h4 : W.heap.size ≤ W2.heap.size) {g' : Value} (hg : W2.heap[w.heap.size + 1]? = some (.cells #[g'] 22 (0, 0))) : Vars w W2 n0 n1 n2 g' :=
 ⟨(hk _ (heap_lt h.n) (by omega)).trans h.n, hg, h1.trans h.b.os, h2.trans h.b.tape, h3.trans h.b.output, Nat.le_trans h.b.size h4, fun k hlt => (hk k (by have := heap_lt h.n; omega) (by omega)).trans (h.b.block k hlt)⟩

theorem Vars.far {w W : World} {n0 n1 n2 g : Value} (h : Vars w W n0 n1 n2 g) (p : Addr) (u : Value) (hp : w.heap.size + 1 < p.block) : Vars w (W.setCell p u) n0 n1 n2 g :=
 ⟨(heap_setCell_other _ _ _ _ (by omega)).trans h.n, (heap_setCell_other _ _ _ _ (by omega)).trans h.g, Below.setCell h.b (by omega) _⟩
theorem Vars.drew {w W : World} {n0 n1 n2 g : Value} (h : Vars w W n0 n1 n2 g) : Vars w W.drew n0 n1 n2 g := ⟨h.n, h.g, h.b.drew⟩
/-- The end of Open, at the world behind the draw. -/
theorem open_done {w W : World} {m0 m1 m2 : Value} {G : Option Addr} {cg : Nat} {t : List Int} {S : Option Addr} {cs : Nat} {s : List Int} {p m : Nat} {tp : TypeId} {X1 : Option Addr} {x1 x2 : Nat} {ad : Addr} {a y z : T} {xt : Int} {xb : List Int} {N1 : Option Addr} {n1 : Nat} {N2 : Option Addr} {n2 : Nat}
 (hV : Vars w W m0 m1 m2 (.slice G t.length cg)) (hp : w.heap.size + 1 < p) (hx : W.heap[p]? = some (.cells #[.int .i64 xt, .slice X1 xb.length x1, .slice (some ad) 3 x2] tp (0, 0))) (hn : NodeR W (w.heap.size + 2) m ⟨xt, xb, [a, y, z]⟩ (.slice X1 xb.length x1) (.slice (some ad) 3 x2))
 (u0 : W.cell? ad = some (.int .i64 a.f0)) (u1 : W.cell? ⟨ad.block, ad.off + 1, none⟩ = some (.slice N1 a.f1.length n1)) (u2 : W.cell? ⟨ad.block, ad.off + 2, none⟩ = some (.slice N2 a.f2.length n2))
 (hG : (Kd.int .u8).R 5 W (w.heap.size + 2) (fun _ => True) (.slice G t.length cg) t) (hS : (Kd.int .u8).R 5 W (w.heap.size + 2) (fun _ => True) (.slice S s.length cs) s) :
 (W.cell? ⟨p, 2, none⟩ = some (.slice (some ad) 3 x2) ∧ W.cell? ad = some (.int .i64 a.f0) ∧ W.cell? ⟨ad.block, ad.off + 1, none⟩ = some (.slice N1 a.f1.length n1) ∧ W.cell? ⟨ad.block, ad.off + 2, none⟩ = some (.slice N2 a.f2.length n2) ∧ W.cell? ⟨w.heap.size + 1, 0, none⟩ = some (.slice G t.length cg)) ∧
 (∀ W1, W1 = ((W.setCell ⟨w.heap.size, 0, none⟩ (.int .i64 a.f0)).setCell ⟨w.heap.size, 1, none⟩ (.slice N1 a.f1.length n1)).setCell ⟨w.heap.size, 2, none⟩ (.slice N2 a.f2.length n2) →
  (W1.cell? ⟨p, 2, none⟩ = some (.slice (some ad) 3 x2) ∧ W1.cell? ad = some (.int .i64 a.f0) ∧ W1.cell? ⟨ad.block, ad.off + 1, none⟩ = some (.slice N1 a.f1.length n1) ∧ W1.cell? ⟨ad.block, ad.off + 2, none⟩ = some (.slice N2 a.f2.length n2) ∧ W1.cell? ⟨w.heap.size + 1, 0, none⟩ = some (.slice G t.length cg)) ∧
  W1.cell? ⟨w.heap.size + 1, 0, none⟩ = some (.slice G t.length cg) ∧ W1.frozen? ⟨w.heap.size + 1, 0, none⟩ = false ∧
  (∀ W2, W2 = W1.setCell ⟨w.heap.size + 1, 0, none⟩ (.slice G t.length cg) →
   Vars w W2 (.int .i64 a.f0) (.slice N1 a.f1.length n1) (.slice N2 a.f2.length n2) (.slice G t.length cg) ∧ NodeAt W2 a N1 n1 N2 n2 ∧ ReadsInt W2 .u8 S s.length s ∧ s.length ≤ cs ∧ ReadsInt W2 .u8 G t.length t ∧ t.length ≤ cg)) := by
 have had : w.heap.size + 2 ≤ ad.block := by
  have := (Kd.R_bound hn.k).1 ad.block rfl
  exact this.2.1
 refine ⟨⟨Lib.cell_of_heap hx 2, u0, u1, u2, Lib.cell_of_heap hV.g 0⟩, ?_⟩
 intro W1 hW1
 have hV1 : Vars w W1 (.int .i64 a.f0) (.slice N1 a.f1.length n1) (.slice N2 a.f2.length n2) (.slice G t.length cg) := by rw [hW1]; exact hV.setN _ _ _
 have hk1 : ∀ k, k ≠ w.heap.size → W1.heap[k]? = W.heap[k]? := fun k hk => by rw [hW1]; exact (heap_setCell_other _ _ _ _ hk).trans ((heap_setCell_other _ _ _ _ hk).trans (heap_setCell_other _ _ _ _ hk))
 have hx1 := (hk1 p (by omega)).trans hx
 have hcell : ∀ (W' : World), (∀ k, w.heap.size + 2 ≤ k → W'.heap[k]? = W.heap[k]?) → ∀ b : Addr, w.heap.size + 2 ≤ b.block → W'.cell? b = W.cell? b := by
  intro W' hW' b hb
  unfold World.cell?
  rw [hW' _ hb]
 have e1 := hcell W1 (fun k hk => hk1 k (by omega))
 refine ⟨⟨Lib.cell_of_heap hx1 2, (e1 ad had).trans u0, (e1 ⟨ad.block, ad.off + 1, none⟩ had).trans u1, (e1 ⟨ad.block, ad.off + 2, none⟩ had).trans u2, Lib.cell_of_heap hV1.g 0⟩, Lib.cell_of_heap hV1.g 0, Lib.frozen_of_heap hV1.g 0, ?_⟩
 intro W2 hW2
 have hV2 : Vars w W2 (.int .i64 a.f0) (.slice N1 a.f1.length n1) (.slice N2 a.f2.length n2) (.slice G t.length cg) := by rw [hW2]; exact hV1.setG _
 have hk2 : ∀ k, w.heap.size + 2 ≤ k → W2.heap[k]? = W.heap[k]? := fun k hk => by rw [hW2]; exact (heap_setCell_other _ _ _ _ (by show k ≠ w.heap.size + 1; omega)).trans (hk1 k (by omega))
 have e2 := hcell W2 hk2
 have hG2 := Kd.R_move (w1 := W2) (Kd.R_mono (Kd.R_bound hG) (fun k hk => hk.2.1)) (fun k hk => hk2 k hk)
 have hS2 := Kd.R_move (w1 := W2) (Kd.R_mono (Kd.R_bound hS) (fun k hk => hk.2.1)) (fun k hk => hk2 k hk)
 obtain ⟨_, _, f1, g1, k1⟩ := Kd.R_reads hG2
 injection f1 with f1 _ f1'
 subst f1 f1'
 obtain ⟨_, _, f2, g2, k2⟩ := Kd.R_reads hS2
 injection f2 with f2 _ f2'
 subst f2 f2'
 have hn2 := (hn.move (w1 := W2) (fun k hk _ => hk2 k hk)).at (n := ⟨xt, xb, [a, y, z]⟩)
 obtain ⟨ad', N1', n1', N2', n2', e', v0, v1, v2, l1, i1, l2, i2⟩ := at_T25 hn2.2.2.1 0 (by omega) (by simp)
 injection e' with e'
 subst e'
 have hrd : rd_T25 [a, y, z] 0 = a := rfl
 rw [hrd] at v1 v2 l1 i1 l2 i2
 replace v1 : W2.cell? ⟨ad.block, ad.off + 1, none⟩ = some (.slice N1' a.f1.length n1') := v1
 replace v2 : W2.cell? ⟨ad.block, ad.off + 2, none⟩ = some (.slice N2' a.f2.length n2') := v2
 have w1 := ((e2 ⟨ad.block, ad.off + 1, none⟩ had).trans u1).symm.trans v1
 have w2 := ((e2 ⟨ad.block, ad.off + 2, none⟩ had).trans u2).symm.trans v2
 injection w1 with w1
 injection w1 with w1 _ w1'
 injection w2 with w2
 injection w2 with w2 _ w2'
 subst w1 w1' w2 w2'
 exact ⟨hV2, ⟨i1, l1, i2, l2⟩, reads_of_C k2, g2, reads_of_C k1, g1⟩

set_option maxHeartbeats 4000000 in
set_option maxRecDepth 100000 in
theorem open_walk (A : Option Addr) (c : Nat) (l : List Int) (w : World) (hr : ReadsInt w .u8 A l.length l) (hc : l.length ≤ c) (hv : ∀ x ∈ l, 0 ≤ x ∧ x < 256) (hl : l.length ≤ 1000000000) :
 Calls Try.prog 9 #[.slice A l.length c] w (OpenPost w l) := by
 have hmf : ∀ (fn : Fn) (first cap : Array Value) (w : World), (Instr.makeFunc fn first cap).run Try.prog w = .ok (.func fn first cap) w := fun _ _ _ _ => rfl
 have hV := Vars.new w
 have HREAD := Lib.hid (read_walk A c l _ (ReadsInt_below hr hV.b) hc hv hl)
 have HV := Lib.hid hV
 have HL := Lib.hid hv
 generalize hPP : OpenPost w l = PP
 clear hr hv hV
 go_enter Try.func9, Try.ntmps9
 go_wp2_with (fail)
 refine HREAD.out.mono ?_
 intro e w3 hp
 unfold ReadPost at hp
 cases hq : readP l with
 | err x =>
  rw [hq] at hp
  obtain ⟨rfl, hB3⟩ := hp
  have hx : x ≠ 0 := readP_errs hq
  have hV3 := HV.out.step hB3
  have hV4 := hV3.step (W2 := w3.alloc (.cells #[.int .i64 0, .slice none 0 0, .slice none 0 0] 25)) ((Below.refl _ _).alloc (Nat.le_refl _) _)
  have hpp : PP = fun e w' => e = .returned (.tuple #[.agg #[.int .i64 0, .slice none 0 0, .slice none 0 0], .slice none 0 0, .slice none 0 0, .int .i64 x]) ∧ Below w.heap.size w w' := by
   rw [← hPP]; funext e w'; unfold OpenPost openP; rw [hq]
  clear hPP hq hB3 HREAD
  subst hpp
  have a0 := Lib.cell_of_heap hV4.n 0
  have a1 := Lib.cell_of_heap hV4.n 1
  have a2 := Lib.cell_of_heap hV4.n 2
  have g0 := Lib.cell_of_heap hV4.g 0
  have fa0 := Lib.frozen_of_heap hV4.n 0
  have fa1 := Lib.frozen_of_heap hV4.n 1
  have fa2 := Lib.frozen_of_heap hV4.n 2
  have fg0 := Lib.frozen_of_heap hV4.g 0
  have hx1 := eq_false hx
  have hx2 : (x == 0) = false := beq_eq_false_iff_ne.2 hx
  have hne : (w.heap.size = w3.heap.size) = False := eq_false (by have := heap_lt hV3.n; omega)
  have hne2 : (w.heap.size + 1 = w3.heap.size) = False := eq_false (by have := heap_lt hV3.g; omega)
  have HV4 := Lib.hid hV4
  clear hV3 hV4 hx
  go_wp2
  have hF := (HV4.out.setN (.int .i64 0) (.slice none 0 0) (.slice none 0 0)).setG (.slice none 0 0)
  generalize ((((w3.alloc (.cells #[.int .i64 0, .slice none 0 0, .slice none 0 0] 25)).setCell ⟨w.heap.size, 0, none⟩ (.int .i64 0)).setCell ⟨w.heap.size, 1, none⟩ (.slice none 0 0)).setCell ⟨w.heap.size, 2, none⟩ (.slice none 0 0)).setCell ⟨w.heap.size + 1, 0, none⟩ (.slice none 0 0) = WF at hF ⊢
  have z0 := Lib.cell_of_heap hF.n 0
  have z1 := Lib.cell_of_heap hF.n 1
  have z2 := Lib.cell_of_heap hF.n 2
  have z3 := Lib.cell_of_heap hF.g 0
  refine bodyPost_ret (v := .tuple #[.agg #[.int .i64 0, .slice none 0 0, .slice none 0 0], .slice none 0 0, .slice none 0 0, .int .i64 x]) (by simp [results, Try.results9, go_sem, z0, z1, z2, z3]) rfl ?_
  exact ⟨rfl, hF.b⟩
 | ok x =>
  rw [hq] at hp
  obtain ⟨v1, v2, rfl, hv1, hv2, hB3⟩ := hp
  obtain ⟨b1, b2, b3, b4, b5⟩ := readP_ok HL.out hq
  have hnr := NodeR.of (n := x) hv1 hv2
  obtain ⟨X1, x1, X2, x2, rfl, rfl, hnx⟩ := hnr.form
  have hV3 := HV.out.step hB3
  have hsz2 : ((w.alloc (.cells #[.int .i64 0, .slice none 0 0, .slice none 0 0] 25)).alloc (.cells #[.slice none 0 0] 22)).heap.size = w.heap.size + 2 := by simp
  rw [hsz2] at hnr
  have hal : Below w3.heap.size w3 (w3.alloc (.cells #[.int .i64 x.f0, .slice X1 x.f1.length x1, .slice X2 x.f2.length x2] 25)) := (Below.refl _ _).alloc (Nat.le_refl _) _
  have hle : w.heap.size + 1 < w3.heap.size := heap_lt hV3.g
  have H4 : ∀ w4, w4 = w3.alloc (.cells #[.int .i64 x.f0, .slice X1 x.f1.length x1, .slice X2 x.f2.length x2] 25) → Calls Try.prog 20 #[.func (.func 21) #[] #[.pointer (some ⟨w3.heap.size, 0, none⟩), .pointer (some ⟨w.heap.size + 1, 0, none⟩)]] w4 fun e w7 =>
   match openSig x with
   | none => e = .returned (.int .i64 2) ∧ Vars w w7 (.int .i64 0) (.slice none 0 0) (.slice none 0 0) (.slice none 0 0)
   | some (a, t) => e = .returned (.int .i64 0) ∧ ∃ G cg, Vars w w7 (.int .i64 0) (.slice none 0 0) (.slice none 0 0) (.slice G t.length cg) ∧ w7.heap[w3.heap.size]? = some (.cells #[.int .i64 x.f0, .slice X1 x.f1.length x1, .slice X2 x.f2.length x2] 25 (0, 0)) ∧ NodeR w7 (w.heap.size + 2) w3.heap.size x (.slice X1 x.f1.length x1) (.slice X2 x.f2.length x2) ∧ (Kd.int .u8).R 5 w7 (w.heap.size + 2) (fun _ => True) (.slice G t.length cg) t := by
   intro w4 hw4
   have hs4 : w4.heap.size = w3.heap.size + 1 := by rw [hw4]; simp
   have hx4 : w4.heap[w3.heap.size]? = some (.cells #[.int .i64 x.f0, .slice X1 x.f1.length x1, .slice X2 x.f2.length x2] 25 (0, 0)) := by rw [hw4]; exact heap_alloc_new w3 _
   rw [← hw4] at hal
   have hV4 := hV3.step hal
   have hn4 := hnx.below hal
   have hr4 := hnr.below hal
   have hal5 : Below w4.heap.size w4 (w4.alloc (.cells #[.int .i64 0] 28)) := (Below.refl _ _).alloc (Nat.le_refl _) _
   have he5 : (w4.alloc (.cells #[.int .i64 0] 28)).heap[w4.heap.size]? = some (.cells #[.int .i64 0] 28 (0, 0)) := heap_alloc_new w4 _
   have hV5 := hV4.step hal5
   have hx5 := (hal5.block _ (heap_lt hx4)).trans hx4
   have hn5 := hn4.below hal5
   have hr5 := hr4.below (hal5.mono (by omega))
   have hop := open1_any x w3.heap.size (w.heap.size + 1) (w4.alloc (.cells #[.int .i64 0] 28)) X1 x1 X2 x2 _ _ _ hx5 hV5.g hn5 b2 (by omega) (by rw [← b1]; exact HL.out)
   cases ho : openSig x with
   | none =>
    have hw := wrong_walk w3.heap.size (w.heap.size + 1) w4 (fun z W => z = 2 ∧ Below (w4.alloc (.cells #[.int .i64 0] 28)).heap.size (w4.alloc (.cells #[.int .i64 0] 28)) W) (hop.mono (by
     rintro e w2 h
     unfold Open1Post at h
     rw [ho] at h
     obtain ⟨rfl, hB⟩ := h
     exact ⟨.inr ⟨2, rfl, rfl, hB⟩, (hB.block _ (heap_lt he5)).trans he5⟩))
    refine hw.mono ?_
    rintro e w7 ⟨z, w2, rfl, ⟨rfl, hB⟩, rfl⟩
    exact ⟨rfl, (hV5.step hB).far ⟨w4.heap.size, 0, none⟩ _ (by show _ < w4.heap.size; omega)⟩
   | some pr =>
    obtain ⟨a, t⟩ := pr
    have hw := wrong_walk w3.heap.size (w.heap.size + 1) w4 (fun z W => z = 0 ∧ ∃ w6 G cg, Below (w4.alloc (.cells #[.int .i64 0] 28)).heap.size (w4.alloc (.cells #[.int .i64 0] 28)) w6 ∧ W = w6.setCell ⟨w.heap.size + 1, 0, none⟩ (.slice G t.length cg) ∧ (Kd.int .u8).R 5 w6 (w4.alloc (.cells #[.int .i64 0] 28)).heap.size (fun _ => True) (.slice G t.length cg) t) (hop.mono (by
     rintro e w2 h
     unfold Open1Post at h
     rw [ho] at h
     obtain ⟨rfl, w6, G, cg, hB, rfl, hG⟩ := h
     exact ⟨.inl ⟨rfl, rfl, w6, G, cg, hB, rfl, hG⟩, (heap_setCell_other _ _ _ _ (by show w4.heap.size ≠ w.heap.size + 1; omega)).trans ((hB.block _ (heap_lt he5)).trans he5)⟩))
    refine hw.mono ?_
    rintro e w7 ⟨z, w2, rfl, ⟨rfl, w6, G, cg, hB, rfl, hG⟩, rfl⟩
    have hs5 : (w4.alloc (.cells #[.int .i64 0] 28)).heap.size = w4.heap.size + 1 := by simp
    refine ⟨rfl, G, cg, ((hV5.step hB).setG _).far ⟨w4.heap.size, 0, none⟩ _ (by show _ < w4.heap.size; omega), ?_, ?_, ?_⟩
    ·exact (heap_setCell_other _ _ _ _ (by show w3.heap.size ≠ w4.heap.size; omega)).trans ((heap_setCell_other _ _ _ _ (by show w3.heap.size ≠ w.heap.size + 1; omega)).trans ((hB.block _ (heap_lt hx5)).trans hx5))
    ·exact (hr5.below (hB.mono (by omega))).move (fun k hk1 hk2 => (heap_setCell_other _ _ _ _ (by show k ≠ w4.heap.size; omega)).trans (heap_setCell_other _ _ _ _ (by show k ≠ w.heap.size + 1; omega)))
    ·have hG1 := Kd.R_mono (Kd.R_bound hG) (fun k hk => hk.2.1)
     have hG2 := Kd.R_far (p := ⟨w.heap.size + 1, 0, none⟩) hG1 (fun k hk => by show k ≠ w.heap.size + 1; omega) (.slice G t.length cg)
     have hG3 := Kd.R_far (p := ⟨w4.heap.size, 0, none⟩) hG2 (fun k hk => by show k ≠ w4.heap.size; omega) (.int .i64 0)
     exact Kd.R_lower (Kd.R_mono hG3 (fun _ _ => trivial)) (by omega)
  have HH4 := Lib.hid H4
  have HLE := Lib.hid hle
  clear H4 hnr hnx hal HREAD hB3 hle hV3 hv1 hv2 hsz2
  go_wp2_with (fail)
  refine (HH4.out _ rfl).mono ?_
  intro e w7 hp
  clear HH4
  cases ho : openSig x with
  | none =>
   rw [ho] at hp
   obtain ⟨rfl, hV7⟩ := hp
   have hpp : PP = fun e w' => e = .returned (.tuple #[.agg #[.int .i64 0, .slice none 0 0, .slice none 0 0], .slice none 0 0, .slice none 0 0, .int .i64 2]) ∧ Below w.heap.size w w' := by
    rw [← hPP]; funext e w'; unfold OpenPost openP; rw [hq]; simp only []; rw [ho]
   clear hPP hq b1 b2 b3 b4 b5 ho
   subst hpp
   have a0 := Lib.cell_of_heap hV7.n 0
   have a1 := Lib.cell_of_heap hV7.n 1
   have a2 := Lib.cell_of_heap hV7.n 2
   have g0 := Lib.cell_of_heap hV7.g 0
   have fa0 := Lib.frozen_of_heap hV7.n 0
   have fa1 := Lib.frozen_of_heap hV7.n 1
   have fa2 := Lib.frozen_of_heap hV7.n 2
   have fg0 := Lib.frozen_of_heap hV7.g 0
   have HV7 := Lib.hid hV7
   clear hV7
   go_wp2
   have hF := (HV7.out.setN (.int .i64 0) (.slice none 0 0) (.slice none 0 0)).setG (.slice none 0 0)
   generalize (((w7.setCell ⟨w.heap.size, 0, none⟩ (.int .i64 0)).setCell ⟨w.heap.size, 1, none⟩ (.slice none 0 0)).setCell ⟨w.heap.size, 2, none⟩ (.slice none 0 0)).setCell ⟨w.heap.size + 1, 0, none⟩ (.slice none 0 0) = WF at hF ⊢
   have z0 := Lib.cell_of_heap hF.n 0
   have z1 := Lib.cell_of_heap hF.n 1
   have z2 := Lib.cell_of_heap hF.n 2
   have z3 := Lib.cell_of_heap hF.g 0
   refine bodyPost_ret (v := .tuple #[.agg #[.int .i64 0, .slice none 0 0, .slice none 0 0], .slice none 0 0, .slice none 0 0, .int .i64 2]) (by simp [results, Try.results9, go_sem, z0, z1, z2, z3]) rfl ?_
   exact ⟨rfl, hF.b⟩
  | some pr =>
   obtain ⟨a, t⟩ := pr
   rw [ho] at hp
   obtain ⟨rfl, G, cg, hV7, hx7, hr7, hG7⟩ := hp
   obtain ⟨y, z, q1, q2, q3, q4⟩ := openSig_some ho
   obtain ⟨k1, k2, k3, k4⟩ := kids_parts x b2 a (by rw [q2]; simp)
   have hwa : writeP a = .ok (encT a) := by unfold writeP; rw [if_neg (by rw [k1]; simp), if_neg (by omega), if_neg (by omega)]
   have hpp : PP = fun e w' => ∃ A1 c1 A2 c2 S cs G cg, e = .returned (.tuple #[.agg #[.int .i64 a.f0, .slice A1 a.f1.length c1, .slice A2 a.f2.length c2], .slice S (encT a).length cs, .slice G t.length cg, .int .i64 0]) ∧ NodeAt w' a A1 c1 A2 c2 ∧ ReadsInt w' .u8 S (encT a).length (encT a) ∧ (encT a).length ≤ cs ∧ ReadsInt w' .u8 G t.length t ∧ t.length ≤ cg ∧ Below w.heap.size w w' := by
    have hsd : saidP a = encT a := by unfold saidP; rw [hwa]
    rw [← hPP]; funext e w'; unfold OpenPost openP; rw [hq]; simp only []; rw [ho]; simp only [hsd]
   have hsa : sizeT a ≤ 100000000 := by omega
   clear hPP hq b1 b2 b3 b4 b5 ho k1 k2 k3 k4
   subst hpp
   obtain ⟨xt, xb, xk⟩ := x
   dsimp only at q1 q2 hx7 hr7 ⊢
   subst q1 q2
   obtain ⟨ad, N1, n1, N2, n2, rfl, u0, u1, u2, l1, i1, l2, i2⟩ := at_T25 (hr7.at (n := ⟨48, xb, [a, y, z]⟩)).2.2.1 0 (by omega) (by simp)
   have hrd : rd_T25 [a, y, z] 0 = a := rfl
   rw [hrd] at u0 u1 u2 l1 i1 l2 i2
   have haz : Addr.add ad (Int.toNat 0 * 3) = ad := Addr.add_zero' ad
   rw [haz] at u0
   replace u1 : w7.cell? ⟨ad.block, ad.off + 1, none⟩ = some (.slice N1 a.f1.length n1) := u1
   replace u2 : w7.cell? ⟨ad.block, ad.off + 2, none⟩ = some (.slice N2 a.f2.length n2) := u2
   have hb2 := Lib.cell_of_heap hx7 2
   have HW := Lib.hid (write_walk a (fun _ => hsa) N1 n1 N2 n2 w7 ⟨i1, l1, i2, l2⟩)
   have HALL := Lib.hid (And.intro hV7 (And.intro hx7 (And.intro hr7 (And.intro hG7 (And.intro u0 (And.intro u1 u2))))))
   clear i1 l1 i2 l2 hV7 hx7 hr7 hG7 q3 q4 hrd haz
   go_wp2_with (fail)
   refine HW.out.mono ?_
   intro e w8 hp
   unfold WritePost at hp
   rw [hwa] at hp
   obtain ⟨S, cs, rfl, hS, hB8⟩ := hp
   obtain ⟨hV7, hx7, hr7, hG7, u0', u1', u2'⟩ := HALL.out
   have hV8 := (hV7.step hB8).drew
   have hle := HLE.out
   have hlt7 := heap_lt hx7
   have hd := open_done (W := w8.drew) hV8 (show w.heap.size + 1 < w3.heap.size from hle) ((hB8.block _ hlt7).trans hx7) (NodeR.move (w1 := w8.drew) (hr7.below (hB8.mono (by omega))) (fun _ _ _ => rfl))
    ((hB8.cell (World.block_lt_of_cell? w7 _ u0')).trans u0') ((hB8.cell (World.block_lt_of_cell? w7 _ u1')).trans u1') ((hB8.cell (World.block_lt_of_cell? w7 _ u2')).trans u2') (Kd.R_drew (Kd.R_below hG7 hB8)) (Kd.R_drew (Kd.R_lower hS (by omega)))
   have b0 := hd.1.1
   have b1 := hd.1.2.1
   have b2 := hd.1.2.2.1
   have b3 := hd.1.2.2.2.1
   have b4 := hd.1.2.2.2.2
   have hlen : (encT a).length = (encT a).length := rfl
   generalize hsd : encT a = sd at *
   have v0 := Lib.cell_of_heap hV8.n 0
   have v1 := Lib.cell_of_heap hV8.n 1
   have v2 := Lib.cell_of_heap hV8.n 2
   have fv0 := Lib.frozen_of_heap hV8.n 0
   have fv1 := Lib.frozen_of_heap hV8.n 1
   have fv2 := Lib.frozen_of_heap hV8.n 2
   have H8 := Lib.hid (hd.2 _ rfl)
   have HSD := Lib.hid hsd
   clear hd hS hB8 hV7 hx7 hr7 hG7 u0 u1 u2 u0' u1' u2' hb2 hV8 hle hlt7 HW HALL hwa hsa hlen hsd
   go_wp2
   refine start_ (n := 10) (S := fun w' => w'.cell? ⟨w3.heap.size, 2, none⟩ = some (.slice (some ad) 3 x2) ∧ w'.cell? ad = some (.int .i64 a.f0) ∧ w'.cell? ⟨ad.block, ad.off + 1, none⟩ = some (.slice N1 a.f1.length n1) ∧ w'.cell? ⟨ad.block, ad.off + 2, none⟩ = some (.slice N2 a.f2.length n2) ∧ w'.cell? ⟨w.heap.size + 1, 0, none⟩ = some (.slice G t.length cg)) (ds := [8]) #[false, false, false, false, false, false, false, false, false, false] (by kernel_rfl) rfl rfl ⟨b0, b1, b2, b3, b4⟩ (fun hHeld => ?_)
   generalize w8.drew = w9 at hHeld H8 v0 v1 v2 fv0 fv1 fv2 ⊢
   clear b0 b1 b2 b3 b4
   refine pure_ (i := 0) (N := some 30) (v := ?_) (a' := ?_) #[true, false, false, false, false, false, false, false, false, false] rfl rfl (by kernel_rfl) (fun _ _ _ h => h) (Or.inl ⟨by rfl, ?_⟩) ?_ ?_
   rotate_left
   ·intro w'
    go_simp
    with_reducible rfl
   rotate_left
   ·simp only [Act.put, List.setIfInBounds_toArray, List.set_cons_zero, List.set_cons_succ, i64_w, i32_w]
    rfl
   refine take_ (i := 1) (N := some 31) (v := ?_) (a' := ?_) #[true, true, false, false, false, false, false, false, false, false] rfl rfl (by kernel_rfl) (fun _ _ _ h => h) (Or.inl ⟨by rfl, ?_⟩) hHeld ?_ ?_
   rotate_left
   ·rintro w' ⟨s0, s1, s2, s3, s4⟩
    go_simp
    with_reducible rfl
   rotate_left
   ·simp only [Act.put, List.setIfInBounds_toArray, List.set_cons_zero, List.set_cons_succ, i64_w, i32_w]
    rfl
   refine pure_ (i := 2) (N := some 32) (v := ?_) (a' := ?_) #[true, true, true, false, false, false, false, false, false, false] rfl rfl (by kernel_rfl) (fun _ _ _ h => h) (Or.inl ⟨by rfl, ?_⟩) ?_ ?_
   rotate_left
   ·intro w'
    go_simp
    with_reducible rfl
   rotate_left
   ·simp only [Act.put, List.setIfInBounds_toArray, List.set_cons_zero, List.set_cons_succ, i64_w, i32_w]
    rfl
   refine take_ (i := 3) (N := some 33) (v := ?_) (a' := ?_) #[true, true, true, true, false, false, false, false, false, false] rfl rfl (by kernel_rfl) (fun _ _ _ h => h) (Or.inl ⟨by rfl, ?_⟩) hHeld ?_ ?_
   rotate_left
   ·rintro w' ⟨s0, s1, s2, s3, s4⟩
    go_simp
    with_reducible rfl
   rotate_left
   ·simp only [Act.put, List.setIfInBounds_toArray, List.set_cons_zero, List.set_cons_succ, i64_w, i32_w]
    rfl
   refine pure_ (i := 4) (N := some 34) (v := ?_) (a' := ?_) #[true, true, true, true, true, false, false, false, false, false] rfl rfl (by kernel_rfl) (fun _ _ _ h => h) (Or.inl ⟨by rfl, ?_⟩) ?_ ?_
   rotate_left
   ·intro w'
    go_simp
    with_reducible rfl
   rotate_left
   ·simp only [Act.put, List.setIfInBounds_toArray, List.set_cons_zero, List.set_cons_succ, i64_w, i32_w]
    rfl
   refine take_ (i := 5) (N := some 35) (v := ?_) (a' := ?_) #[true, true, true, true, true, true, false, false, false, false] rfl rfl (by kernel_rfl) (fun _ _ _ h => h) (Or.inl ⟨by rfl, ?_⟩) hHeld ?_ ?_
   rotate_left
   ·rintro w' ⟨s0, s1, s2, s3, s4⟩
    go_simp
    with_reducible rfl
   rotate_left
   ·simp only [Act.put, List.setIfInBounds_toArray, List.set_cons_zero, List.set_cons_succ, i64_w, i32_w]
    rfl
   refine one_ (i := 6) (N := none) #[true, true, true, true, true, true, true, false, false, false] rfl rfl (by kernel_rfl) (by decide) (fun K hK => ?_)
   refine skip_step (by rfl) (w1 := ((w9.setCell ⟨w.heap.size, 0, none⟩ (.int .i64 a.f0)).setCell ⟨w.heap.size, 1, none⟩ (.slice N1 a.f1.length n1)).setCell ⟨w.heap.size, 2, none⟩ (.slice N2 a.f2.length n2)) (by go_simp; try rfl) ?_
   refine hK.out _ _ H8.out.1 (fun hHeld => ?_)
   clear hK K
   refine pure_ (i := 7) (N := some 3) (v := ?_) (a' := ?_) #[true, true, true, true, true, true, true, true, false, false] rfl rfl (by kernel_rfl) (fun _ _ _ h => h) (Or.inl ⟨by rfl, ?_⟩) ?_ ?_
   rotate_left
   ·intro w'
    go_simp
    with_reducible rfl
   rotate_left
   ·simp only [Act.put, List.setIfInBounds_toArray, List.set_cons_zero, List.set_cons_succ, i64_w, i32_w]
    rfl
   refine last_ (i := 8) (N := none) #[true, true, true, true, true, true, true, true, true, false] rfl rfl (by kernel_rfl) (by decide) (fun K hK => ?_)
   have hz1 := H8.out.2.1
   have hz2 := H8.out.2.2.1
   refine skip_step (by rfl) (w1 := (((w9.setCell ⟨w.heap.size, 0, none⟩ (.int .i64 a.f0)).setCell ⟨w.heap.size, 1, none⟩ (.slice N1 a.f1.length n1)).setCell ⟨w.heap.size, 2, none⟩ (.slice N2 a.f2.length n2)).setCell ⟨w.heap.size + 1, 0, none⟩ (.slice G t.length cg)) (by go_simp; try rfl) ?_
   refine hK.out _ _ ?_
   clear hK K
   refine pure_ (i := 9) (N := some 5) (v := ?_) (a' := ?_) #[true, true, true, true, true, true, true, true, true, true] rfl rfl (by kernel_rfl) (fun _ _ _ h => h) (Or.inl ⟨by rfl, ?_⟩) ?_ ?_
   rotate_left
   ·intro w'
    go_simp
    with_reducible rfl
   rotate_left
   ·simp only [Act.put, List.setIfInBounds_toArray, List.set_cons_zero, List.set_cons_succ, i64_w, i32_w]
    rfl
   refine done_ (by kernel_rfl) ?_
   go_wp2
   have hF := H8.out.2.2.2 _ rfl
   generalize (((w9.setCell ⟨w.heap.size, 0, none⟩ (.int .i64 a.f0)).setCell ⟨w.heap.size, 1, none⟩ (.slice N1 a.f1.length n1)).setCell ⟨w.heap.size, 2, none⟩ (.slice N2 a.f2.length n2)).setCell ⟨w.heap.size + 1, 0, none⟩ (.slice G t.length cg) = WF at hF ⊢
   have y0 := Lib.cell_of_heap hF.1.n 0
   have y1 := Lib.cell_of_heap hF.1.n 1
   have y2 := Lib.cell_of_heap hF.1.n 2
   have y3 := Lib.cell_of_heap hF.1.g 0
   refine bodyPost_ret (v := .tuple #[.agg #[.int .i64 a.f0, .slice N1 a.f1.length n1, .slice N2 a.f2.length n2], .slice S sd.length cs, .slice G t.length cg, .int .i64 0]) (by simp [results, Try.results9, go_sem, y0, y1, y2, y3]) rfl ?_
   rw [HSD.out]
   exact ⟨N1, n1, N2, n2, S, cs, G, cg, rfl, hF.2.1, hF.2.2.1, hF.2.2.2.1, hF.2.2.2.2.1, hF.2.2.2.2.2, hF.1.b⟩

end Go.Proofs.Ytmbgjhkemlliaaa.Tlv
end

/- The reference's element and Read answer as elemP and readP say. -/
section
set_option linter.unusedVariables false
set_option linter.unusedSimpArgs false
namespace Go.Proofs.Ytmbgjhkemlliaaa.Tlv
open Go.RowKit Go.Proofs.YtmbgjhkemlliaaaW.PrintWords Go.Proofs.YtmbgjhkemlliaaaW.PrintLast Go.Proofs.YtmbgjhkemlliaaaW.PrintMore Go.Proofs.Ytmbgjhkemlliaaa.PT

theorem re_up {l : List Int} {a b c : Int} {r : Int × List Int × List T × Int × Int} {k : Nat} (h : lanyardref04_element.f k l a b c = some r) : ∀ j, lanyardref04_element.f (k + j) l a b c = some r
 | 0 => h
 | j + 1 => lanyardref04_element.mono l a b c (k + j) r (re_up h j)
theorem rel_up {l : List Int} {a b c d e f : Int} {t : List T} {r : Int × List Int × List T × Int × Int} {k : Nat} (h : lanyardref04_element.l0 k l a b c d e f t = some r) : ∀ j, lanyardref04_element.l0 (k + j) l a b c d e f t = some r
 | 0 => h
 | j + 1 => (lanyardref04_element.mono_l (k + j)).2.1 l a b c d e f t r (rel_up h j)
theorem lenP_not3 {short : Int} {b : List Int} {e : Int} (hs : short ≠ 3) (h : lenP short b = .err e) : e ≠ 3 := by
 have := lenP_errs h
 omega
mutual
theorem elemP_not3 : ∀ (n : Nat) (deep short : Int) (b : List Int) (e : Int), short ≠ 3 → elemP n deep short b = .err e → e ≠ 3
 | 0, _, _, b, e, hs, h => by
  simp [elemP] at h
  omega
 | n + 1, deep, short, [], e, hs, h => by
  simp [elemP] at h
  omega
 | n + 1, deep, short, tag :: b, e, hs, h => by
  unfold elemP at h
  split at h
  ·cases hl : lenP short b with
   | err x =>
    rw [hl] at h
    injection h with h
    have := lenP_not3 hs hl
    omega
   | ok p =>
    obtain ⟨m, r2⟩ := p
    rw [hl] at h
    simp only at h
    split at h
    ·injection h with h; omega
    ·split at h
     ·injection h with h; omega
     ·split at h
      ·cases hk : kidsP n (deep + 1) (r2.take m.toNat) with
       | err x =>
        rw [hk] at h
        injection h with h
        have := kidsP_not3 n (deep + 1) (r2.take m.toNat) x hk
        omega
       | ok l => rw [hk] at h; cases h
      ·cases h
  ·injection h with h; omega
theorem kidsP_not3 : ∀ (n : Nat) (deep : Int) (b : List Int) (e : Int), kidsP n deep b = .err e → e ≠ 3
 | 0, _, b, e, h => by
  simp [kidsP] at h
  omega
 | n + 1, deep, [], e, h => by simp [kidsP] at h
 | n + 1, deep, x :: b, e, h => by
  unfold kidsP at h
  cases he : elemP n deep 2 (x :: b) with
  | err y =>
   rw [he] at h
   injection h with h
   have := elemP_not3 n deep 2 (x :: b) y (by decide) he
   omega
  | ok p =>
   obtain ⟨t, r⟩ := p
   rw [he] at h
   simp only at h
   cases hk : kidsP n deep r with
   | err y =>
    rw [hk] at h
    injection h with h
    have := kidsP_not3 n deep r y hk
    omega
   | ok l => rw [hk] at h; cases h
end
def to2 {α : Type} : Res α → Res α
 | .err e => if e = 3 then .err 2 else .err e
 | .ok a => .ok a
theorem lenP_to2 (b : List Int) : lenP 2 b = to2 (lenP 3 b) := by
 cases b with
 | nil => simp [lenP, to2]
 | cons x b =>
  unfold lenP
  simp only
  split
  ·cases b with
   | nil => simp [to2]
   | cons y b => simp only; split <;> simp [to2]
  ·split
   ·cases b with
    | nil => simp [to2]
    | cons y b =>
     cases b with
     | nil => simp [to2]
     | cons z b => simp only; split <;> simp [to2]
   ·split <;> simp [to2]
theorem elemP_to2 (n : Nat) (deep : Int) (b : List Int) : elemP n deep 2 b = to2 (elemP n deep 3 b) := by
 cases n with
 | zero => simp [elemP, to2]
 | succ n =>
  cases b with
  | nil => simp [elemP, to2]
  | cons tag b =>
   unfold elemP
   split
   ·rw [lenP_to2]
    cases hl : lenP 3 b with
    | err e => by_cases he : e = 3 <;> simp [to2, he]
    | ok p =>
     obtain ⟨m, r⟩ := p
     simp only [to2]
     by_cases h1 : (r.length : Int) < m
     ·simp [h1]
     ·by_cases h2 : 32 ≤ deep
      ·simp [h1, h2]
      ·rw [if_neg h1, if_neg h1, if_neg h2]
       by_cases h3 : holdsB tag = true
       ·rw [if_pos h3]
        cases hk : kidsP n (deep + 1) (r.take m.toNat) with
        | err e => simp [kidsP_not3 _ _ _ _ hk]
        | ok l => rfl
       ·rw [if_neg h3]
   ·rfl

theorem headP_elem (n : Nat) (deep : Int) (b : List Int) (hb : ∀ x ∈ b, 0 ≤ x ∧ x < 256) : elemP (n + 1) deep 3 b = match headP b with
 | .err e => .err e
 | .ok (m, r2) => if (r2.length : Int) < m then .err 3 else if 32 ≤ deep then .err 4 else
  if holdsB (b.getD 0 0) = true then (match kidsP n (deep + 1) (r2.take m.toNat) with
   | .err e => .err e
   | .ok l => .ok (⟨b.getD 0 0, [], l⟩, r2.drop m.toNat))
  else .ok (⟨b.getD 0 0, r2.take m.toNat, []⟩, r2.drop m.toNat) := by
 cases b with
 | nil => rfl
 | cons tag b =>
  have ht := hb tag List.mem_cons_self
  unfold elemP headP
  dsimp only
  by_cases h : tag % 32 = 31
  ·have : isTagB tag = false := by unfold isTagB; simp [h]
   rw [this, if_pos h]
   simp
  ·have : isTagB tag = true := by
    unfold isTagB
    rw [decide_eq_true ht.1, decide_eq_true (show tag ≤ 255 by omega), decide_eq_true h]
    rfl
   rw [this, if_neg h, if_pos rfl]
   rfl
theorem headP_errs {b : List Int} {e : Int} (h : headP b = .err e) : e ≠ 0 := by
 cases b with
 | nil => simp [headP] at h; omega
 | cons tag b =>
  unfold headP at h
  dsimp only at h
  split at h
  ·injection h with h; omega
  ·have := lenP_errs h
   omega
theorem headP_ok {b r : List Int} {m : Int} (hb : ∀ x ∈ b, 0 ≤ x ∧ x < 256) (h : headP b = .ok (m, r)) : 0 ≤ m ∧ m < 65536 ∧ r.length + 2 ≤ b.length ∧ ∃ p, b = p ++ r := by
 cases b with
 | nil => simp [headP] at h
 | cons tag b =>
  unfold headP at h
  dsimp only at h
  split at h
  ·cases h
  ·obtain ⟨h1, h2, h3⟩ := lenP_ok (fun x hx => hb x (List.mem_cons_of_mem _ hx)) h tag (hb tag List.mem_cons_self)
   have := lenP_rest h
   exact ⟨h1, h2, by simp; omega, _, h3⟩
def outE (N : Int) : Res (T × List Int) → Int × List Int × List T × Int × Int
 | .err e => (0, [], [], 0, e)
 | .ok (t, r) => (t.f0, t.f1, t.f2, N - r.length, 0)
def outK (tag e : Int) (acc : List T) : Res (List T) → Int × List Int × List T × Int × Int
 | .err x => (0, [], [], 0, x)
 | .ok l => (tag, [], acc ++ l, e, 0)
theorem T_eta : ∀ t : T, (⟨t.f0, t.f1, t.f2⟩ : T) = t := fun ⟨_, _, _⟩ => rfl
def ElC (m : Nat) : Prop := ∀ (pre b : List Int) (deep : Int) (n : Nat), b.length ≤ m → b.length + 1 ≤ n → (∀ x ∈ b, 0 ≤ x ∧ x < 256) → (pre ++ b).length ≤ 20000 → 0 ≤ deep → deep ≤ 32 →
 ∃ k, lanyardref04_element.f k (pre ++ b) (pre.length : Int) ((pre ++ b).length : Int) deep = some (outE ((pre ++ b).length : Int) (elemP n deep 3 b))
theorem el_loop (m : Nat) (ih : ElC m) (Q P : List Int) (F M deep tag : Int) (hF : 0 ≤ F) (hM : 0 ≤ M) (hQ : Q.length ≤ 20000) (hFM : F + M ≤ Q.length) (hd : 0 ≤ deep) (hd2 : deep < 32) : ∀ (n : Nat) (rest done : List Int) (acc : List T), Q.take (F + M).toNat = done ++ rest → rest.length ≤ m → rest.length + 2 ≤ n → (∀ x ∈ rest, 0 ≤ x ∧ x < 256) → acc.length ≤ done.length →
 ∃ k, lanyardref04_element.l0 k Q (Q.length : Int) deep F M (done.length : Int) tag acc = some (outK tag (F + M) acc (kidsP n (deep + 1) rest))
 | 0, rest, done, acc, _, _, hn, _, _ => by omega
 | n + 1, rest, done, acc, e, hm, hn, hb, ha => by
  have hlen := congrArg List.length e
  rw [List.length_take, List.length_append] at hlen
  have hlen' : done.length + rest.length = (F + M).toNat := by omega
  cases rest with
  | nil =>
   refine ⟨1, ?_⟩
   simp only [List.length_nil] at hlen'
   rw [lanyardref04_element.l0, wrap64_in (F + M) (by omega), if_neg (by omega)]
   unfold kidsP outK
   simp
  | cons x b =>
   simp only [List.length_cons] at hlen' hm hn
   obtain ⟨k1, h1⟩ := ih done (x :: b) (deep + 1) n (by simpa using hm) (by simp; omega) hb (by rw [← e, List.length_take]; omega) (by omega) (by omega)
   have eN : ((done ++ x :: b).length : Int) = F + M := by simp; omega
   rw [eN, ← e] at h1
   have hacc : acc.length < 2513169434916 := by omega
   cases he : elemP n (deep + 1) 3 (x :: b) with
   | err y =>
    rw [he] at h1
    have hy := elemP_errs n (deep + 1) 3 (x :: b) y (by simp; omega) (by decide) he
    have hk : kidsP (n + 1) (deep + 1) (x :: b) = .err (if y = 3 then 2 else y) := by
     unfold kidsP
     rw [elemP_to2, he, to2]
     by_cases h3 : y = 3
     ·rw [if_pos h3, if_pos h3]
     ·rw [if_neg h3, if_neg h3]
    refine ⟨(k1 + 1) + 1, ?_⟩
    rw [lanyardref04_element.l0, wrap64_in (F + M) (by omega), if_pos (by omega), if_pos (by omega), if_pos (by omega), wrap64_in (deep + 1) (by omega), re_up h1 1, Option.bind_some, hk]
    unfold outE outK
    dsimp only
    by_cases h3 : y = 3
    ·rw [if_pos h3, decide_eq_true (show F + M ≤ (Q.length : Int) by omega), lanyardref04_element.j1, if_pos rfl, if_neg (by decide), if_pos h3]
    ·rw [if_neg h3, lanyardref04_element.j1, if_neg (by simp), if_neg hy, if_neg h3]
   | ok p =>
    obtain ⟨t, r⟩ := p
    rw [he] at h1
    have hr := elemP_rest he
    obtain ⟨e1, e2, e3, e4⟩ := elemP_ok _ _ _ _ _ _ hb he
    have hte := encT_len t
    have hl2 := congrArg List.length e1
    rw [List.length_append] at hl2
    simp only [List.length_cons] at hl2 hr
    obtain ⟨k2, h2⟩ := el_loop m ih Q P F M deep tag hF hM hQ hFM hd hd2 n r (done ++ encT t) (acc ++ [t]) (by rw [e, e1, List.append_assoc]) (by omega) (by omega) (fun v hv => hb v (by rw [e1]; exact List.mem_append_right _ hv)) (by simp; omega)
    have hk : kidsP (n + 1) (deep + 1) (x :: b) = match kidsP n (deep + 1) r with
     | .err e => .err e
     | .ok l => .ok (t :: l) := by
     rw [kidsP, elemP_to2, he]
     rfl
    refine ⟨(k1 + k2) + 2, ?_⟩
    rw [lanyardref04_element.l0, wrap64_in (F + M) (by omega), if_pos (by omega), if_pos (by omega), if_pos (by omega), wrap64_in (deep + 1) (by omega), show k1 + k2 + 1 = k1 + (k2 + 1) by omega, re_up h1 (k2 + 1), Option.bind_some, hk]
    unfold outE
    dsimp only
    rw [if_neg (by decide), show k1 + (k2 + 1) = (k2 + k1) + 1 by omega, lanyardref04_element.j1, if_neg (by simp), if_pos rfl, if_pos hacc]
    rw [show F + M - (r.length : Int) = ((done ++ encT t).length : Int) by simp; omega]
    have h3 := rel_up h2 k1
    rw [T_eta t, h3]
    cases kidsP n (deep + 1) r with
    | err e => rfl
    | ok l => simp [outK]
theorem el_any : ∀ m, ElC m := by
 intro m
 induction m using Nat.strongRecOn with
 | _ m ih =>
 intro pre b deep n hm hn hb hN hd hd2
 obtain ⟨n, rfl⟩ : ∃ j, n = j + 1 := ⟨n - 1, by omega⟩
 have hl : ((pre ++ b).length : Int) = (pre.length : Int) + b.length := by simp
 rw [headP_elem n deep b hb]
 cases hh : headP b with
 | err e =>
  have he := headP_errs hh
  refine ⟨3, ?_⟩
  rw [lanyardref04_element.f, rhead_f pre b hb hN 0, hh, Option.bind_some]
  unfold outH outE
  dsimp only
  rw [if_neg he]
 | ok p =>
  obtain ⟨M, r⟩ := p
  obtain ⟨h1, h2, h3, pp, h4⟩ := headP_ok hb hh
  generalize hQ : pre ++ b = Q at *
  have hQr : Q = (pre ++ pp) ++ r := by rw [← hQ, h4, List.append_assoc]
  have hlr := congrArg List.length hQr
  rw [List.length_append] at hlr
  have hF : ((pre ++ pp).length : Int) = (Q.length : Int) - (r.length : Int) := by omega
  have hrd : rd Q (pre.length : Int) = b.getD 0 0 := by
   have := rd_app pre b 0
   simpa [hQ] using this
  have hb0 : 0 ≤ b.getD 0 0 ∧ b.getD 0 0 < 256 := by
   cases b with
   | nil => simp at h3
   | cons x b => exact hb x List.mem_cons_self
  dsimp only
  by_cases c1 : (r.length : Int) < M
  ·refine ⟨3, ?_⟩
   have hh2 := rhead_f pre b hb (by rw [hQ]; exact hN) 0
   rw [hQ] at hh2
   rw [if_pos c1]
   rw [lanyardref04_element.f, hh2, hh, Option.bind_some]
   unfold outH outE
   dsimp only
   rw [if_pos rfl, wrap64_in _ (by omega), if_pos (by omega), if_neg (by omega)]
  ·by_cases c2 : 32 ≤ deep
   ·refine ⟨3, ?_⟩
    have hh2 := rhead_f pre b hb (by rw [hQ]; exact hN) 0
    rw [hQ] at hh2
    rw [if_neg c1, if_pos c2]
    rw [lanyardref04_element.f, hh2, hh, Option.bind_some]
    unfold outH outE
    dsimp only
    rw [if_pos rfl, wrap64_in _ (by omega), if_neg (by omega), if_pos (by omega)]
   ·have hdrop : Q.drop ((Q.length : Int) - (r.length : Int)).toNat = r := by
     rw [← hF, hQr, Int.toNat_natCast, List.drop_left]
    have hdr : ∀ x : Nat, ((r.length : Int) - M) = ((r.drop M.toNat).length : Int) := fun _ => by rw [List.length_drop]; omega
    by_cases c3 : holdsB (b.getD 0 0) = true
    ·have htake : Q.take ((Q.length : Int) - (r.length : Int) + M).toNat = (pre ++ pp) ++ r.take M.toNat := by
      rw [hQr, List.take_append, List.take_of_length_le (by rw [← hQr]; omega)]
      congr 1
      congr 1
      rw [← hQr]
      omega
     obtain ⟨k, hk⟩ := el_loop (m - 1) (ih (m - 1) (by omega)) Q [] ((Q.length : Int) - (r.length : Int)) M deep (b.getD 0 0) (by omega) h1 hN (by omega) hd (by omega) n (r.take M.toNat) (pre ++ pp) [] htake (by rw [List.length_take]; omega) (by rw [List.length_take]; omega) (fun v hv => hb v (by rw [h4]; exact List.mem_append_right _ (List.mem_of_mem_take hv))) (by simp)
     rw [hF] at hk
     refine ⟨(k + 2) + 1, ?_⟩
     have hh2 := rhead_f pre b hb (by rw [hQ]; exact hN) k
     rw [hQ] at hh2
     rw [if_neg c1, if_neg c2, if_pos c3]
     rw [lanyardref04_element.f, hh2, hh, Option.bind_some]
     unfold outH
     dsimp only
     rw [if_pos rfl, wrap64_in _ (by omega), if_neg (by omega), if_neg (by omega), if_pos (by omega), if_pos (by omega), hrd, wrap64_in (b.getD 0 0) (by omega), rwithin_f _ hb0.1 hb0.2, Option.bind_some, c3, if_pos rfl, rel_up hk 2]
     cases kidsP n (deep + 1) (r.take M.toNat) with
     | err e => rfl
     | ok l =>
      unfold outK outE
      dsimp only
      rw [← hdr 0, List.nil_append]
      congr 5
      omega
    ·refine ⟨3, ?_⟩
     have hh2 := rhead_f pre b hb (by rw [hQ]; exact hN) 0
     rw [hQ] at hh2
     rw [if_neg c1, if_neg c2, if_neg c3]
     rw [lanyardref04_element.f, hh2, hh, Option.bind_some]
     unfold outH
     dsimp only
     rw [if_pos rfl, wrap64_in _ (by omega), if_neg (by omega), if_neg (by omega), if_pos (by omega), if_pos (by omega), hrd, wrap64_in (b.getD 0 0) (by omega), rwithin_f _ hb0.1 hb0.2, Option.bind_some, if_neg c3, Option.bind_some, if_pos (by omega), if_pos (by omega), if_pos (by omega)]
     have hcut : (Q.take ((Q.length : Int) - (r.length : Int) + M).toNat).drop ((Q.length : Int) - (r.length : Int)).toNat = r.take M.toNat := by
      rw [List.drop_take, hdrop]
      congr 1
      omega
     rw [hcut, if_pos (by simp; omega)]
     unfold outE
     dsimp only
     rw [← hdr 0, List.nil_append]
     congr 5
     omega
theorem rread_f (b : List Int) (hb : ∀ x ∈ b, 0 ≤ x ∧ x < 256) : ∃ k, lanyardref04_Read.f k b = some (match readP b with
 | .err e => (0, [], [], e)
 | .ok t => (t.f0, t.f1, t.f2, 0)) := by
 by_cases h0 : 20000 < b.length
 ·refine ⟨0, ?_⟩
  have : readP b = .err 5 := by unfold readP; rw [if_pos h0]
  rw [lanyardref04_Read.f, if_pos (by omega), this]
 ·obtain ⟨k, hk⟩ := el_any b.length [] b 0 (b.length + 1) (Nat.le_refl _) (Nat.le_refl _) hb (by simpa using (by omega : b.length ≤ 20000)) (by decide) (by decide)
  simp only [List.nil_append, List.length_nil, Int.natCast_zero] at hk
  refine ⟨k, ?_⟩
  rw [lanyardref04_Read.f, if_neg (by omega), hk, Option.bind_some]
  unfold readP
  rw [if_neg h0]
  cases he : elemP (b.length + 1) 0 3 b with
  | err e =>
   have := elemP_errs _ _ _ _ _ (Nat.le_refl _) (by decide) he
   unfold outE
   dsimp only
   rw [if_neg this]
  | ok p =>
   obtain ⟨t, r⟩ := p
   have hr := elemP_rest he
   unfold outE
   dsimp only
   rw [if_pos rfl]
   by_cases h1 : r = []
   ·subst h1
    rw [if_neg (by simp), if_pos rfl]
   ·have : 0 < r.length := List.length_pos_iff.2 h1
    rw [if_pos (by omega), if_neg h1]

end Go.Proofs.Ytmbgjhkemlliaaa.Tlv
end
