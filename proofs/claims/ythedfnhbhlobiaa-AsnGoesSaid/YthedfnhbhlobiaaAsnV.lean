/- AsnGoes, walked along the path that the answers of Within open. -/
import Derived.Test.YthedfnhbhlobiaaAsnS
set_option linter.unusedVariables false
namespace Go.Proofs.Ythedfnhbhlobiaa.AsnP
open Go.RowKit Go.Proofs.Ythedfnhbhlobiaa.PAsn Go.Proofs.Ythedfnhbhlobiaa.Asn Go.Proofs.YthedfnhbhlobiaaW.PrintWords Go.Proofs.YthedfnhbhlobiaaW.PrintLast Go.Proofs.YthedfnhbhlobiaaW.PrintMore
attribute [local go_sem] max2_int min2_int max_two min_two

theorem same_iff {a b : List S27} (ha : OkS a) (hb : OkS b) : joinS a = joinS b ↔ ∀ n, Itv.mem (a.map toR) n ↔ Itv.mem (b.map toR) n := by
  constructor
  · intro h n
    rw [← (joinS_told ha).2.1 n, ← (joinS_told hb).2.1 n, h]
  · intro h
    exact joinS_of ha (joinS_told hb).1 (fun n => ((joinS_told hb).2.1 n).trans (h n).symm)
theorem within_both {a b : List S27} (ha : OkS a) (hb : OkS b) : (withinS (joinS a) (joinS b) && withinS (joinS b) (joinS a)) = decide (joinS a = joinS b) := by
  rw [Bool.eq_iff_iff, Bool.and_eq_true, decide_eq_true_iff, within_iff ha hb, within_iff hb ha, same_iff ha hb]
  exact ⟨fun h n => ⟨h.1 n, h.2 n⟩, fun h => ⟨fun n => (h n).1, fun n => (h n).2⟩⟩
theorem within_trans {a b c : List S27} (ha : OkS a) (hb : OkS b) (hc : OkS c) (h1 : withinS (joinS a) (joinS b) = true) (h2 : withinS (joinS b) (joinS c) = true) : withinS (joinS a) (joinS c) = true :=
  (within_iff ha hc).2 (fun n hn => (within_iff hb hc).1 h2 n ((within_iff ha hb).1 h1 n hn))
theorem within_self {a : List S27} (ha : OkS a) : withinS (joinS a) (joinS a) = true := (within_iff ha ha).2 (fun _ h => h)
theorem within_none (a : List S27) : withinS (joinS []) a = true := by simp [joinS, withinS]
theorem many_le {a b : List S27} (ha : OkS a) (hb : OkS b) (h : withinS (joinS a) (joinS b) = true) : manyS (joinS a) ≤ manyS (joinS b) := by
  obtain ⟨a1, a2, a3⟩ := joinS_told ha
  obtain ⟨b1, b2, b3⟩ := joinS_told hb
  exact Itv.many_mono a1 b1 (okk_map a3) (okk_map b3) (fun n hn => (b2 n).2 ((within_iff ha hb).1 h n ((a2 n).1 hn)))
theorem ok_nil : OkS ([] : List S27) := fun r hr => by cases hr

set_option maxHeartbeats 8000000 in
set_option maxRecDepth 100000 in
theorem goes_walk (k : Nat) (A0 : Option Addr) (c0 : Nat) (l0 : List S27) (A1 : Option Addr) (c1 : Nat) (l1 : List S27) (A2 : Option Addr) (c2 : Nat) (l2 : List S27) (ja jb : List S27) (x y z sm : Bool) (ma mb : Int) (w : World)
    (hr0 : Kd.C k27 w A0 l0.length l0) (hc0 : l0.length ≤ c0) (hr1 : Kd.C k27 w A1 l1.length l1) (hc1 : l1.length ≤ c1) (hr2 : Kd.C k27 w A2 l2.length l2) (hc2 : l2.length ≤ c2) (la : l0.length ≤ 60) (lb : l1.length ≤ 60) (lc : l2.length ≤ 60)
    (q1 : lanyardlaw12_awake.f k = some true) (q2 : asn_Within.f l0 l1 = some x) (q3 : asn_Within.f l1 l2 = some y) (q4 : asn_Within.f l1 l0 = some z) (q5 : asn_Join.f l0 = some ja) (q6 : asn_Join.f l1 = some jb) (q7 : lanyardref12_Same.f k ja jb = some sm)
    (q8 : asn_Within.f l0 l0 = some true) (q9 : asn_Within.f [] l0 = some true) (q10 : x = true → y = true → asn_Within.f l0 l2 = some true) (q11 : asn_Many.f k l0 = some ma) (q12 : asn_Many.f k l1 = some mb) (qs : (x && z) = sm) (qm : x = true → ma ≤ mb) :
    Calls Try.prog 5 #[.slice A0 l0.length c0, .slice A1 l1.length c1, .slice A2 l2.length c2] w fun e w' => e = .returned (.bool true) ∧ Below w.heap.size w w' := by
  have Q1 := Lib.hid q1
  have Q2 := Lib.hid q2
  have Q3 := Lib.hid q3
  have Q4 := Lib.hid q4
  have Q5 := Lib.hid q5
  have Q6 := Lib.hid q6
  have Q7 := Lib.hid q7
  have Q8 := Lib.hid q8
  have Q9 := Lib.hid q9
  have Q10 := Lib.hid q10
  have Q11 := Lib.hid q11
  have Q12 := Lib.hid q12
  have QS := Lib.hid qs
  have QM := Lib.hid qm
  clear q1 q2 q3 q4 q5 q6 q7 q8 q9 q10 q11 q12 qs qm
  have d1 : decide ((60 : Int) < (l0.length : Int)) = false := decide_eq_false (by omega)
  have d2 : decide ((60 : Int) < (l1.length : Int)) = false := decide_eq_false (by omega)
  have d3 : decide ((60 : Int) < (l2.length : Int)) = false := decide_eq_false (by omega)
  go_enter Try.func5, Try.ntmps5
  go_wp2_with fail
  refine (lanyardlaw12_awake.calls k true _ Q1.out).mono ?_
  rintro e w1 ⟨rfl, hb1⟩
  go_wp2_with fail
  refine (asn_Within.calls A0 c0 l0 A1 c1 l1 x w1 (Kd.C_below hr0 hb1) hc0 (Kd.C_below hr1 hb1) hc1 Q2.out).mono ?_
  rintro e w2 ⟨rfl, hb2⟩
  have hb2' : Below w.heap.size w w2 := hb1.trans (hb2.mono hb1.size)
  clear hb2 hb1
  go_wp2_with fail
  refine (asn_Within.calls A1 c1 l1 A2 c2 l2 y w2 (Kd.C_below hr1 hb2') hc1 (Kd.C_below hr2 hb2') hc2 Q3.out).mono ?_
  rintro e w3 ⟨rfl, hb3⟩
  have hb3' : Below w.heap.size w w3 := hb2'.trans (hb3.mono hb2'.size)
  clear hb3 hb2'
  go_wp2_with fail
  refine (asn_Within.calls A1 c1 l1 A0 c0 l0 z w3 (Kd.C_below hr1 hb3') hc1 (Kd.C_below hr0 hb3') hc0 Q4.out).mono ?_
  rintro e w4 ⟨rfl, hb4⟩
  have hb4' : Below w.heap.size w w4 := hb3'.trans (hb4.mono hb3'.size)
  clear hb4 hb3'
  go_wp2_with fail
  refine (asn_Join.calls A0 c0 l0 ja w4 (Kd.C_below hr0 hb4') hc0 Q5.out).mono ?_
  rintro e w5 ⟨v2, rfl, ho2, hb5⟩
  have hb5' : Below w.heap.size w w5 := hb4'.trans (hb5.mono hb4'.size)
  clear hb5 hb4'
  go_wp2_with fail
  refine (asn_Join.calls A1 c1 l1 jb w5 (Kd.C_below hr1 hb5') hc1 Q6.out).mono ?_
  rintro e w6 ⟨v3, rfl, ho3, hb6⟩
  have hb6' : Below w.heap.size w w6 := hb5'.trans (hb6.mono hb5'.size)
  have ho2' := Kd.R_below ho2 hb6
  obtain ⟨B2, d2', rfl⟩ := Kd.R_slice ho2'
  obtain ⟨B3, d3', rfl⟩ := Kd.R_slice ho3
  have hy2 := (Kd.R_reads' ho2').2.2
  have hy3 := (Kd.R_reads' ho3).2.2
  have hz2 := (Kd.R_reads' ho2').2.1
  have hz3 := (Kd.R_reads' ho3).2.1
  clear ho2 ho2' ho3 hb6 hb5'
  go_wp2_with fail
  refine (lanyardref12_Same.calls k B2 d2' ja B3 d3' jb sm w6 hy2 hz2 hy3 hz3 Q7.out).mono ?_
  rintro e w7 ⟨rfl, hb7⟩
  have hb7' : Below w.heap.size w w7 := hb6'.trans (hb7.below.mono hb6'.size)
  clear hy2 hy3 hz2 hz3 hb7 hb6'
  go_wp2_with fail
  refine (asn_Within.calls A0 c0 l0 A0 c0 l0 true w7 (Kd.C_below hr0 hb7') hc0 (Kd.C_below hr0 hb7') hc0 Q8.out).mono ?_
  rintro e w8 ⟨rfl, hb8⟩
  have hb8' : Below w.heap.size w w8 := hb7'.trans (hb8.mono hb7'.size)
  clear hb8 hb7'
  go_wp2_with fail
  refine (asn_Within.calls none 0 [] A0 c0 l0 true w8 (Kd.C_nil _ _) (Nat.le_refl _) (Kd.C_below hr0 hb8') hc0 Q9.out).mono ?_
  rintro e w9 ⟨rfl, hb9⟩
  have hb9' : Below w.heap.size w w9 := hb8'.trans (hb9.mono hb8'.size)
  clear hb9 hb8'
  cases x with
  | false =>
    obtain rfl : sm = false := by have := QS.out; simpa using this.symm
    clear Q2 Q3 Q10 QM QS
    go_wp2
    go_ret
    exact ⟨rfl, hb9'⟩
  | true =>
    obtain rfl : sm = z := by have := QS.out; simpa using this.symm
    have dm : decide (ma ≤ mb) = true := decide_eq_true (QM.out rfl)
    have ez : (sm == sm) = true := by simp
    clear QS QM Q4 Q7
    cases y with
    | false =>
      clear Q10
      go_wp2_with fail
      refine (asn_Many.calls k A0 c0 l0 ma w9 (Kd.C_below hr0 hb9') hc0 Q11.out).mono ?_
      rintro e w10 ⟨rfl, hb10⟩
      have hb10' : Below w.heap.size w w10 := hb9'.trans (hb10.mono hb9'.size)
      clear hb10 hb9'
      go_wp2_with fail
      refine (asn_Many.calls k A1 c1 l1 mb w10 (Kd.C_below hr1 hb10') hc1 Q12.out).mono ?_
      rintro e w11 ⟨rfl, hb11⟩
      have hb11' : Below w.heap.size w w11 := hb10'.trans (hb11.mono hb10'.size)
      clear hb11 hb10'
      go_wp2
      go_ret
      exact ⟨rfl, hb11'⟩
    | true =>
      have Q10' := Lib.hid (Q10.out rfl rfl)
      clear Q10
      go_wp2_with fail
      refine (asn_Within.calls A0 c0 l0 A2 c2 l2 true w9 (Kd.C_below hr0 hb9') hc0 (Kd.C_below hr2 hb9') hc2 Q10'.out).mono ?_
      rintro e w12 ⟨rfl, hb12⟩
      have hb12' : Below w.heap.size w w12 := hb9'.trans (hb12.mono hb9'.size)
      clear hb12 hb9'
      go_wp2_with fail
      refine (asn_Many.calls k A0 c0 l0 ma w12 (Kd.C_below hr0 hb12') hc0 Q11.out).mono ?_
      rintro e w10 ⟨rfl, hb10⟩
      have hb10' : Below w.heap.size w w10 := hb12'.trans (hb10.mono hb12'.size)
      clear hb10 hb12'
      go_wp2_with fail
      refine (asn_Many.calls k A1 c1 l1 mb w10 (Kd.C_below hr1 hb10') hc1 Q12.out).mono ?_
      rintro e w11 ⟨rfl, hb11⟩
      have hb11' : Below w.heap.size w w11 := hb10'.trans (hb11.mono hb10'.size)
      clear hb11 hb10'
      go_wp2
      go_ret
      exact ⟨rfl, hb11'⟩

set_option maxHeartbeats 8000000 in
set_option maxRecDepth 100000 in
theorem goes_short (k : Nat) (A0 : Option Addr) (c0 : Nat) (l0 : List S27) (A1 : Option Addr) (c1 : Nat) (l1 : List S27) (A2 : Option Addr) (c2 : Nat) (l2 : List S27) (w : World) (h : ¬ (l0.length ≤ 60 ∧ l1.length ≤ 60 ∧ l2.length ≤ 60)) (q1 : lanyardlaw12_awake.f k = some true) :
    Calls Try.prog 5 #[.slice A0 l0.length c0, .slice A1 l1.length c1, .slice A2 l2.length c2] w fun e w' => e = .returned (.bool true) ∧ Below w.heap.size w w' := by
  have Q1 := Lib.hid q1
  clear q1
  by_cases la : l0.length ≤ 60
  · have d1 : decide ((60 : Int) < (l0.length : Int)) = false := decide_eq_false (by omega)
    by_cases lb : l1.length ≤ 60
    · have d2 : decide ((60 : Int) < (l1.length : Int)) = false := decide_eq_false (by omega)
      have d3 : decide ((60 : Int) < (l2.length : Int)) = true := decide_eq_true (by omega)
      clear h la lb
      go_enter Try.func5, Try.ntmps5
      go_wp2_with fail
      refine (lanyardlaw12_awake.calls k true _ Q1.out).mono ?_
      rintro e w1 ⟨rfl, hb1⟩
      go_wp2
      go_ret
      exact ⟨rfl, hb1⟩
    · have d2 : decide ((60 : Int) < (l1.length : Int)) = true := decide_eq_true (by omega)
      clear h la lb
      go_enter Try.func5, Try.ntmps5
      go_wp2_with fail
      refine (lanyardlaw12_awake.calls k true _ Q1.out).mono ?_
      rintro e w1 ⟨rfl, hb1⟩
      go_wp2
      go_ret
      exact ⟨rfl, hb1⟩
  · have d1 : decide ((60 : Int) < (l0.length : Int)) = true := decide_eq_true (by omega)
    clear h la
    go_enter Try.func5, Try.ntmps5
    go_wp2_with fail
    refine (lanyardlaw12_awake.calls k true _ Q1.out).mono ?_
    rintro e w1 ⟨rfl, hb1⟩
    go_wp2
    go_ret
    exact ⟨rfl, hb1⟩

theorem goes_calls (A0 : Option Addr) (c0 : Nat) (l0 : List S27) (A1 : Option Addr) (c1 : Nat) (l1 : List S27) (A2 : Option Addr) (c2 : Nat) (l2 : List S27) (w : World)
    (hr0 : Kd.C k27 w A0 l0.length l0) (hc0 : l0.length ≤ c0) (hr1 : Kd.C k27 w A1 l1.length l1) (hc1 : l1.length ≤ c1) (hr2 : Kd.C k27 w A2 l2.length l2) (hc2 : l2.length ≤ c2) (ha : OkS l0) (hb : OkS l1) (hc : OkS l2) :
    Calls Try.prog 5 #[.slice A0 l0.length c0, .slice A1 l1.length c1, .slice A2 l2.length c2] w fun e w' => e = .returned (.bool true) ∧ Below w.heap.size w w' := by
  by_cases h : l0.length ≤ 60 ∧ l1.length ≤ 60 ∧ l2.length ≤ 60
  · obtain ⟨la, lb, lc⟩ := h
    have hja := joinS_length ha
    have la' : l0.length ≤ 1000000000 := by omega
    have lb' : l1.length ≤ 1000000000 := by omega
    have lc' : l2.length ≤ 1000000000 := by omega
    exact goes_walk 200 A0 c0 l0 A1 c1 l1 A2 c2 l2 (joinS l0) (joinS l1) _ _ _ (decide (joinS l0 = joinS l1)) _ _ w hr0 hc0 hr1 hc1 hr2 hc2 la lb lc (awake_f 200 (by omega))
      (within_f la' ha lb' hb) (within_f lb' hb lc' hc) (within_f lb' hb la' ha) (join_f la' ha) (join_f lb' hb) (same_f _ _ (by omega) 200 (by omega))
      (by rw [within_f la' ha la' ha, within_self ha]) (by rw [within_f (by simp) ok_nil la' ha, within_none])
      (fun hx hy => by rw [within_f la' ha lc' hc, within_trans ha hb hc hx hy]) (many_f la' ha 200 (by omega)) (many_f lb' hb 200 (by omega)) (within_both ha hb) (fun hx => many_le ha hb hx)
  · exact goes_short 2 A0 c0 l0 A1 c1 l1 A2 c2 l2 w h (awake_f 2 (by omega))

end Go.Proofs.Ythedfnhbhlobiaa.AsnP
