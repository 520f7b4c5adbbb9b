/- AsnJoins, walked along the one path that it takes. -/
import Derived.Test.YthedfnhbhlobiaaAsnS
set_option linter.unusedVariables false
namespace Go.Proofs.Ythedfnhbhlobiaa.AsnP
open Go.RowKit Go.Proofs.Ythedfnhbhlobiaa.PAsn Go.Proofs.Ythedfnhbhlobiaa.Asn Go.Proofs.YthedfnhbhlobiaaW.PrintWords Go.Proofs.YthedfnhbhlobiaaW.PrintLast Go.Proofs.YthedfnhbhlobiaaW.PrintMore
attribute [local go_sem] max2_int min2_int max_two min_two

set_option maxHeartbeats 8000000 in
set_option maxRecDepth 100000 in
theorem joins_walk (k : Nat) (A0 : Option Addr) (c0 : Nat) (l0 : List S27) (A1 : Option Addr) (c1 : Nat) (l1 : List S27) (n : Int) (j : List S27) (wv hv : Bool) (mv : Int) (w : World)
    (hr0 : Kd.C k27 w A0 l0.length l0) (hc0 : l0.length ≤ c0) (hr1 : Kd.C k27 w A1 l1.length l1) (hc1 : l1.length ≤ c1) (la : l0.length ≤ 100) (lb : l1.length ≤ 100)
    (q1 : lanyardlaw12_awake.f k = some true) (q2 : asn_Join.f l0 = some j) (q3 : lanyardref12_Join.f k l0 = some j) (q4 : lanyardref12_Same.f k j j = some true)
    (q5 : asn_Within.f l0 l1 = some wv) (q6 : lanyardref12_Within.f k l0 l1 = some wv) (q7 : asn_Has.f l0 n = some hv) (q8 : lanyardref12_Has.f k l0 n = some hv) (q9 : asn_Many.f k l0 = some mv) (q10 : lanyardref12_Many.f k l0 = some mv) :
    Calls Try.prog 4 #[.slice A0 l0.length c0, .slice A1 l1.length c1, .int .u32 n] w fun e w' => e = .returned (.bool true) ∧ Below w.heap.size w w' := by
  have Q1 := Lib.hid q1
  have Q2 := Lib.hid q2
  have Q3 := Lib.hid q3
  have Q4 := Lib.hid q4
  have Q5 := Lib.hid q5
  have Q6 := Lib.hid q6
  have Q7 := Lib.hid q7
  have Q8 := Lib.hid q8
  have Q9 := Lib.hid q9
  have Q10 := Lib.hid q10
  clear q1 q2 q3 q4 q5 q6 q7 q8 q9 q10
  have d1 : decide ((100 : Int) < (l0.length : Int)) = false := decide_eq_false (by omega)
  have d2 : decide ((100 : Int) < (l1.length : Int)) = false := decide_eq_false (by omega)
  have e1 : (wv == wv) = true := by simp
  have e2 : (hv == hv) = true := by simp
  have e3 : (mv == mv) = true := by simp
  go_enter Try.func4, Try.ntmps4
  go_wp2_with fail
  refine (lanyardlaw12_awake.calls k true _ Q1.out).mono ?_
  rintro e w1 ⟨rfl, hb1⟩
  go_wp2_with fail
  refine (asn_Join.calls A0 c0 l0 j w1 (Kd.C_below hr0 hb1) hc0 Q2.out).mono ?_
  rintro e w2 ⟨v2, rfl, ho2, hb2⟩
  have hb2' : Below w.heap.size w w2 := hb1.trans (hb2.mono hb1.size)
  go_wp2_with fail
  refine (lanyardref12_Join.calls k A0 c0 l0 j w2 (Kd.C_below hr0 hb2') hc0 Q3.out).mono ?_
  rintro e w3 ⟨v3, rfl, ho3, hb3⟩
  have hb3' : Below w.heap.size w w3 := hb2'.trans (hb3.mono hb2'.size)
  have ho2' := Kd.R_below ho2 hb3
  obtain ⟨B2, d2', rfl⟩ := Kd.R_slice ho2'
  obtain ⟨B3, d3', rfl⟩ := Kd.R_slice ho3
  have hy2 := (Kd.R_reads' ho2').2.2
  have hy3 := (Kd.R_reads' ho3).2.2
  have hz2 := (Kd.R_reads' ho2').2.1
  have hz3 := (Kd.R_reads' ho3).2.1
  clear ho2 ho2' ho3 hb1 hb2 hb3
  go_wp2_with fail
  refine (lanyardref12_Same.calls k B2 d2' j B3 d3' j true w3 hy2 hz2 hy3 hz3 Q4.out).mono ?_
  rintro e w4 ⟨rfl, hb4⟩
  have hb4' : Below w.heap.size w w4 := hb3'.trans (hb4.below.mono hb3'.size)
  clear hy2 hy3 hb2' hb3' hb4
  go_wp2_with fail
  refine (asn_Within.calls A0 c0 l0 A1 c1 l1 wv w4 (Kd.C_below hr0 hb4') hc0 (Kd.C_below hr1 hb4') hc1 Q5.out).mono ?_
  rintro e w5 ⟨rfl, hb5⟩
  have hb5' : Below w.heap.size w w5 := hb4'.trans (hb5.mono hb4'.size)
  clear hb5 hb4'
  go_wp2_with fail
  refine (lanyardref12_Within.calls k A0 c0 l0 A1 c1 l1 wv w5 (Kd.C_below hr0 hb5') hc0 (Kd.C_below hr1 hb5') hc1 Q6.out).mono ?_
  rintro e w6 ⟨rfl, hb6⟩
  have hb6' : Below w.heap.size w w6 := hb5'.trans (hb6.mono hb5'.size)
  clear hb6 hb5'
  go_wp2_with fail
  refine (asn_Has.calls A0 c0 l0 n hv w6 (Kd.C_below hr0 hb6') hc0 Q7.out).mono ?_
  rintro e w7 ⟨rfl, hb7⟩
  have hb7' : Below w.heap.size w w7 := hb6'.trans (hb7.mono hb6'.size)
  clear hb7 hb6'
  go_wp2_with fail
  refine (lanyardref12_Has.calls k A0 c0 l0 n hv w7 (Kd.C_below hr0 hb7') hc0 Q8.out).mono ?_
  rintro e w8 ⟨rfl, hb8⟩
  have hb8' : Below w.heap.size w w8 := hb7'.trans (hb8.below.mono hb7'.size)
  clear hb8 hb7'
  go_wp2_with fail
  refine (asn_Many.calls k A0 c0 l0 mv w8 (Kd.C_below hr0 hb8') hc0 Q9.out).mono ?_
  rintro e w9 ⟨rfl, hb9⟩
  have hb9' : Below w.heap.size w w9 := hb8'.trans (hb9.mono hb8'.size)
  clear hb9 hb8'
  go_wp2_with fail
  refine (lanyardref12_Many.calls k A0 c0 l0 mv w9 (Kd.C_below hr0 hb9') hc0 Q10.out).mono ?_
  rintro e w10 ⟨rfl, hb10⟩
  have hb10' : Below w.heap.size w w10 := hb9'.trans (hb10.mono hb9'.size)
  clear hb10 hb9'
  go_wp2
  go_ret
  exact ⟨rfl, hb10'⟩

set_option maxHeartbeats 8000000 in
set_option maxRecDepth 100000 in
theorem joins_short (k : Nat) (A0 : Option Addr) (c0 : Nat) (l0 : List S27) (A1 : Option Addr) (c1 : Nat) (l1 : List S27) (n : Int) (w : World) (h : ¬ (l0.length ≤ 100 ∧ l1.length ≤ 100)) (q1 : lanyardlaw12_awake.f k = some true) :
    Calls Try.prog 4 #[.slice A0 l0.length c0, .slice A1 l1.length c1, .int .u32 n] w fun e w' => e = .returned (.bool true) ∧ Below w.heap.size w w' := by
  have Q1 := Lib.hid q1
  clear q1
  by_cases la : l0.length ≤ 100
  · have d1 : decide ((100 : Int) < (l0.length : Int)) = false := decide_eq_false (by omega)
    have d2 : decide ((100 : Int) < (l1.length : Int)) = true := decide_eq_true (by omega)
    clear h la
    go_enter Try.func4, Try.ntmps4
    go_wp2_with fail
    refine (lanyardlaw12_awake.calls k true _ Q1.out).mono ?_
    rintro e w1 ⟨rfl, hb1⟩
    go_wp2
    go_ret
    exact ⟨rfl, hb1⟩
  · have d1 : decide ((100 : Int) < (l0.length : Int)) = true := decide_eq_true (by omega)
    clear h la
    go_enter Try.func4, Try.ntmps4
    go_wp2_with fail
    refine (lanyardlaw12_awake.calls k true _ Q1.out).mono ?_
    rintro e w1 ⟨rfl, hb1⟩
    go_wp2
    go_ret
    exact ⟨rfl, hb1⟩

theorem joins_calls (A0 : Option Addr) (c0 : Nat) (l0 : List S27) (A1 : Option Addr) (c1 : Nat) (l1 : List S27) (n : Int) (w : World)
    (hr0 : Kd.C k27 w A0 l0.length l0) (hc0 : l0.length ≤ c0) (hr1 : Kd.C k27 w A1 l1.length l1) (hc1 : l1.length ≤ c1) (ha : OkS l0) (hb : OkS l1) :
    Calls Try.prog 4 #[.slice A0 l0.length c0, .slice A1 l1.length c1, .int .u32 n] w fun e w' => e = .returned (.bool true) ∧ Below w.heap.size w w' := by
  by_cases h : l0.length ≤ 100 ∧ l1.length ≤ 100
  · obtain ⟨la, lb⟩ := h
    have hja := joinS_length ha
    obtain ⟨k1, h1⟩ := refjoin_f (show l0.length ≤ 1000000000 by omega) ha
    obtain ⟨k2, h2⟩ := refwithin_f (show l0.length ≤ 1000000000 by omega) ha (show l1.length ≤ 1000000000 by omega) hb
    obtain ⟨k3, h3⟩ := refmany_f (show l0.length ≤ 1000000000 by omega) ha
    obtain ⟨k, hk⟩ : ∃ k, k = k1 + k2 + k3 + 200 := ⟨_, rfl⟩
    have h4 : lanyardref12_Has.f k l0 n = some (hasL l0 n) := by
      obtain ⟨j, hj⟩ : ∃ j, k = l0.length + j + 1 := ⟨k - l0.length - 1, by omega⟩
      rw [hj]
      have := refhas_l0 (l := l0) (by omega) n j l0.length 0 (by omega)
      rw [List.drop_zero] at this
      exact this
    exact joins_walk k A0 c0 l0 A1 c1 l1 n (joinS l0) _ _ _ w hr0 hc0 hr1 hc1 la lb (awake_f k (by omega)) (join_f (by omega) ha)
      (le_any (f := fun k => lanyardref12_Join.f k l0) (lanyardref12_Join.mono l0) h1 (by omega)) (by rw [same_f _ _ (by omega) k (by omega)]; simp)
      (within_f (by omega) ha (by omega) hb) (le_any (f := fun k => lanyardref12_Within.f k l0 l1) (lanyardref12_Within.mono l0 l1) h2 (by omega))
      (has_f (by omega) ha n) h4 (many_f (by omega) ha k (by omega)) (le_any (f := fun k => lanyardref12_Many.f k l0) (lanyardref12_Many.mono l0) h3 (by omega))
  · exact joins_short 2 A0 c0 l0 A1 c1 l1 n w h (awake_f 2 (by omega))

end Go.Proofs.Ythedfnhbhlobiaa.AsnP
