/- The machine side of the laws AsnRises, AsnJoins, AsnGoes, AsnOne: its functions as plain Lean functions, and that the calls come to what these say; written by a program of this session (wip/tools/pr.py over the kit's printer). -/
import Derived.Test.YthedfnhbhlobiaaPAsnx0
import Derived.Test.YthedfnhbhlobiaaPAsnx2
import Derived.Test.YthedfnhbhlobiaaPAsnx3
import Derived.Test.YthedfnhbhlobiaaAsn6
namespace Go.Proofs.Ythedfnhbhlobiaa.PAsn
open Go.RowKit Go.Proofs.YthedfnhbhlobiaaW.PrintWords Go.Proofs.YthedfnhbhlobiaaW.PrintLast Go.Proofs.YthedfnhbhlobiaaW.PrintMore
attribute [local go_sem] max2_int min2_int max_two min_two max_three min_three max_four min_four   -- for this text's walks alone
set_option linter.unusedVariables false
set_option linter.unusedSimpArgs false

/-! ### lanyardref12_Many: function 16 -/
def lanyardref12_Many.l0 : Nat → List (S27) → Int → Int → Option (Int)
  | 0, _, _, _ => none
  | k + 1, x3, x4, x5 => if x5 < (x3.length : Int) then (if 0 ≤ x5 then (lanyardref12_Many.l0 k x3 (IntKind.u64.wrap ((IntKind.u64.wrap ((IntKind.u64.wrap (x4 + (IntKind.u64.wrap ((rd_T27 x3 x5).f1)))) - (IntKind.u64.wrap ((rd_T27 x3 x5).f0)))) + 1)) (wrap64 (x5 + 1))) else (none)) else (some x4)
def lanyardref12_Many.f (k : Nat) (l0 : List (S27)) : Option (Int) := (lanyardref12_Join.f k l0).bind fun t158 => (lanyardref12_Many.l0 k t158 0 0)
theorem lanyardref12_Many.mono_l : ∀ k, (∀ y0 y1 y2, LeO (lanyardref12_Many.l0 k y0 y1 y2) (lanyardref12_Many.l0 (k + 1) y0 y1 y2))
  | 0 => fun _ _ _ r h => by simp [lanyardref12_Many.l0] at h
  | k + 1 => by
    have ih0 := lanyardref12_Many.mono_l k
    · intro y0 y1 y2
      unfold lanyardref12_Many.l0
      repeat' first
      | (with_reducible exact ih0 _ _ _)
      | (with_reducible exact lanyardref12_Join.mono _ _)
      | (with_reducible exact LeO.refl _)
      | (with_reducible exact LeO.none _)
      | (with_reducible refine LeO.ite ?_ ?_)
      | (with_reducible refine LeO.bind ?_ (fun _ => ?_))
      | exact ih0 _ _ _
      | exact lanyardref12_Join.mono _ _
      | exact LeO.none _
      | refine LeO.ite ?_ ?_
      | refine LeO.bind ?_ (fun _ => ?_)
theorem lanyardref12_Many.mono : ∀ a0 k, LeO (lanyardref12_Many.f k a0) (lanyardref12_Many.f (k + 1) a0) := by
  intro a0 k
  have ih0 := lanyardref12_Many.mono_l k
  unfold lanyardref12_Many.f
  repeat' first
      | (with_reducible exact ih0 _ _ _)
      | (with_reducible exact lanyardref12_Join.mono _ _)
      | (with_reducible exact LeO.refl _)
      | (with_reducible exact LeO.none _)
      | (with_reducible refine LeO.ite ?_ ?_)
      | (with_reducible refine LeO.bind ?_ (fun _ => ?_))
      | exact ih0 _ _ _
      | exact lanyardref12_Join.mono _ _
      | exact LeO.none _
      | refine LeO.ite ?_ ?_
      | refine LeO.bind ?_ (fun _ => ?_)
set_option maxHeartbeats 8000000 in
set_option maxRecDepth 100000 in
theorem lanyardref12_Many.calls (k : Nat) (A0 : Option Addr) (c0 : Nat) (l0 : List (S27)) (r : Int) (w : World) (hr0 : Kd.C k27 w A0 l0.length l0) (hc0 : l0.length ≤ c0) (h : lanyardref12_Many.f k l0 = some r) :
    Calls Try.prog 16 #[.slice A0 l0.length c0] w fun e w' => e = .returned (.int .u64 r) ∧ Below w.heap.size w w' := by
  have HR0 := Aside0.mk hr0
  have HC0 := Aside0.mk hc0
  clear hr0 hc0
  have HB := Aside0.mk (Below.refl w.heap.size w)
  have H : ((lanyardref12_Join.f k l0).bind fun t158 => (lanyardref12_Many.l0 k t158 0 0)) = some r := h
  clear h
  replace H := Option.bind_eq_some_iff.mp H
  obtain ⟨t158, A20, H⟩ := H
  replace H : (lanyardref12_Many.l0 k t158 0 0) = some r := H
  have A2 := Aside0.mk A20
  clear A20
  have H' := Aside0.mk H
  clear H
  go_enter Try.func16, Try.ntmps16
  go_wp2_with (first | (go_at_call 12; (with_reducible refine (lanyardref12_Join.calls k _ _ l0 t158 _ ?side1 ?side2 A2.out).mono ?_); (case side1 => repeat (first | exact HR0.out | (with_reducible refine Kd.C_alloc ?_ _) | (with_reducible refine Kd.C_drewN ?_ _) | (with_reducible refine Kd.C_drew ?_))); (case side2 => exact HC0.out); rintro e w3 ⟨v159, rfl, ho0, hb⟩; have n0_ := Aside0.mk (Kd.R_lower ho0 (below_size (by repeat (first | (with_reducible first | exact HB.out | apply below_alloc | apply pw_below_drewN | apply below_drew1) | exact HB.out)))); have n1_ := Aside0.mk (below_step (by repeat (first | (with_reducible first | exact HB.out | apply below_alloc | apply pw_below_drewN | apply below_drew1) | exact HB.out)) hb); clear HB; have HO160 := n0_; have HB := n1_; clear n0_ n1_; (try clear hb); (try clear hb2); (try clear hk); (try clear hi); (try clear ho0)))
  repeat (go_quiet (first | (go_at_call 12; (with_reducible refine (lanyardref12_Join.calls k _ _ l0 t158 _ ?side1 ?side2 A2.out).mono ?_); (case side1 => repeat (first | exact HR0.out | (with_reducible refine Kd.C_alloc ?_ _) | (with_reducible refine Kd.C_drewN ?_ _) | (with_reducible refine Kd.C_drew ?_))); (case side2 => exact HC0.out); rintro e w3 ⟨v159, rfl, ho0, hb⟩; have n0_ := Aside0.mk (Kd.R_lower ho0 (below_size (by repeat (first | (with_reducible first | exact HB.out | apply below_alloc | apply pw_below_drewN | apply below_drew1) | exact HB.out)))); have n1_ := Aside0.mk (below_step (by repeat (first | (with_reducible first | exact HB.out | apply below_alloc | apply pw_below_drewN | apply below_drew1) | exact HB.out)) hb); clear HB; have HO160 := n0_; have HB := n1_; clear n0_ n1_; (try clear hb); (try clear hb2); (try clear hk); (try clear hi); (try clear ho0))); try go_wp2_with (first | (go_at_call 12; (with_reducible refine (lanyardref12_Join.calls k _ _ l0 t158 _ ?side1 ?side2 A2.out).mono ?_); (case side1 => repeat (first | exact HR0.out | (with_reducible refine Kd.C_alloc ?_ _) | (with_reducible refine Kd.C_drewN ?_ _) | (with_reducible refine Kd.C_drew ?_))); (case side2 => exact HC0.out); rintro e w3 ⟨v159, rfl, ho0, hb⟩; have n0_ := Aside0.mk (Kd.R_lower ho0 (below_size (by repeat (first | (with_reducible first | exact HB.out | apply below_alloc | apply pw_below_drewN | apply below_drew1) | exact HB.out)))); have n1_ := Aside0.mk (below_step (by repeat (first | (with_reducible first | exact HB.out | apply below_alloc | apply pw_below_drewN | apply below_drew1) | exact HB.out)) hb); clear HB; have HO160 := n0_; have HB := n1_; clear n0_ n1_; (try clear hb); (try clear hb2); (try clear hk); (try clear hi); (try clear ho0))))
  go_loopg [4, 5] k (fun kq v4 v5 w' => ∃ (x4_1 : Int) (x5_1 : Int), v4 = .int .u64 x4_1 ∧ v5 = .int .i64 x5_1 ∧ Aside0 (lanyardref12_Many.l0 kq t158 x4_1 x5_1 = some r) ∧ Aside0 (kq ≤ k) ∧ Aside0 (Kd.R k27 27 w' w.heap.size (fun _ => True) v159 t158) ∧ Aside0 (Below w.heap.size w w'))
  case atStart => exact ⟨(0), (0), (by first | rfl | (simp; done) | (simp [*]; done)), (by first | rfl | (simp; done) | (simp [*]; done)), H', ⟨Nat.le_refl _⟩, ⟨by (with_reducible repeat (first | apply Kd.R_alloc | apply Kd.R_drewN | apply Kd.R_drew)); exact HO160.out⟩, ⟨by repeat (first | (with_reducible first | exact HB.out | apply below_alloc | apply pw_below_drewN | apply below_drew1) | exact HB.out)⟩⟩
  case round =>
    clear H'
    try clear c1
    try clear p2
    obtain ⟨x4_1, x5_1, rfl, rfl, HA, HK1, HO_3, HB⟩ := hrel
    cases gk with
    | zero => exact absurd HA.out (by simp [lanyardref12_Many.l0])
    | succ k1 =>
      have H := HA.out
      clear HA
      simp only [lanyardref12_Many.l0] at H
      by_cases c4 : x5_1 < (t158.length : Int)
      · rw [if_pos c4] at H
        have c4b0 : decide (x5_1 < (t158.length : Int)) = true := decide_eq_true c4
        clear c4
        by_cases c5 : 0 ≤ x5_1
        · rw [if_pos c5] at H
          have c5b0 : decide (0 ≤ x5_1) = true := decide_eq_true c5
          clear c5
          have H' := Aside0.mk H
          clear H
          obtain ⟨Ao6, co6, eo6⟩ := Kd.R_slice HO_3.out
          subst eo6
          have p161 : 0 ≤ (x5_1 : Int) := of_decide_eq_true (by first | (with_reducible assumption) | assumption)
          have q161 : x5_1 < (t158.length : Int) := of_decide_eq_true (by first | (with_reducible assumption) | assumption)
          obtain ⟨ad161, e161, hx161_0, hx161_1⟩ := at_T27 (Kd.R_reads' HO_3.out).2.2 x5_1 p161 q161
          cases e161
          replace p161 := eq_true p161
          replace q161 := eq_true q161
          have p162 : 0 ≤ (x5_1 : Int) := of_decide_eq_true (by first | (with_reducible assumption) | assumption)
          have q162 : x5_1 < (t158.length : Int) := of_decide_eq_true (by first | (with_reducible assumption) | assumption)
          obtain ⟨ad162, e162, hx162_0, hx162_1⟩ := at_T27 (Kd.R_reads' HO_3.out).2.2 x5_1 p162 q162
          obtain rfl : ad161 = ad162 := (by injection e162)
          replace p162 := eq_true p162
          replace q162 := eq_true q162
          go_wp2
          repeat (go_quiet (fail); try go_wp2)
          go_roundg k1
          case measure => have := HK1.out; omega
          case rel => exact ⟨(IntKind.u64.wrap ((IntKind.u64.wrap ((IntKind.u64.wrap (x4_1 + (IntKind.u64.wrap ((rd_T27 t158 x5_1).f1)))) - (IntKind.u64.wrap ((rd_T27 t158 x5_1).f0)))) + 1)), (wrap64 (x5_1 + 1)), (by first | rfl | (simp; done) | (simp [*]; done)), (by first | rfl | (simp; done) | (simp [*]; done)), H', ⟨by have := HK1.out; omega⟩, ⟨by (with_reducible repeat (first | apply Kd.R_alloc | apply Kd.R_drewN | apply Kd.R_drew)); exact HO_3.out⟩, ⟨by repeat (first | (with_reducible first | exact HB.out | apply below_alloc | apply pw_below_drewN | apply below_drew1) | exact HB.out)⟩⟩
        · rw [if_neg c5] at H
          exact absurd H (by simp)
      · rw [if_neg c4] at H
        have c4b0 : decide (x5_1 < (t158.length : Int)) = false := decide_eq_false c4
        clear c4
        obtain rfl := Option.some.inj H
        obtain ⟨Ao7, co7, eo7⟩ := Kd.R_slice HO_3.out
        subst eo7
        go_wp2
        repeat (go_quiet (fail); try go_wp2)
        go_ret
        exact ⟨by first | rfl | (simp [errW_none, errW_some] <;> rfl) | (simp [*, errW_none, errW_some] <;> rfl), by repeat (first | (with_reducible first | exact HB.out | apply below_alloc | apply pw_below_drewN | apply below_drew1) | exact HB.out)⟩


end Go.Proofs.Ythedfnhbhlobiaa.PAsn
