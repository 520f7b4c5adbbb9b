/- The reference's Within, Has and Many in plain Lean. -/
import Derived.Test.YthedfnhbhlobiaaAsnR
import Derived.Test.YthedfnhbhlobiaaPAsnx4
import Derived.Test.YthedfnhbhlobiaaPAsnx6
set_option linter.unusedVariables false
namespace Go.Proofs.Ythedfnhbhlobiaa.AsnP
open Go.RowKit Go.Proofs.Ythedfnhbhlobiaa.PAsn Go.Proofs.Ythedfnhbhlobiaa.Asn Go.Proofs.YthedfnhbhlobiaaW.PrintWords

theorem le_any {α : Type} {f : Nat → Option α} (h : ∀ k, LeO (f k) (f (k + 1))) {k n : Nat} {r : α} (hf : f k = some r) (hk : k ≤ n) : f n = some r := by
  induction hk with
  | refl => exact hf
  | step _ ih => exact h _ _ ih

theorem w_l1 {x y : List S27} (hx : x.length ≤ 1000000000) (hy : y.length ≤ 1000000000) (i : Nat) (hi : i < x.length) (res : Bool) : ∀ (n q : Nat) (b : Bool), q + n = y.length →
    (∃ k, (if (b || liesIn (y.drop q) x[i]) = true then lanyardref12_Within.l0 k x y ((i + 1 : Nat) : Int) else some false) = some res) → ∃ k, lanyardref12_Within.l1 k x y i b q = some res
  | 0, q, b, h, ⟨k, hk⟩ => by
    rw [List.drop_of_length_le (by omega)] at hk
    simp only [liesIn, List.any_nil, Bool.or_false] at hk
    exact ⟨k + 1, by rw [lanyardref12_Within.l1, if_neg (by omega), wrap64_succ i (by omega)]; exact hk⟩
  | n + 1, q, b, h, hk => by
    have hq : q < y.length := by omega
    rw [List.drop_eq_getElem_cons hq] at hk
    have ih := w_l1 hx hy i hi res n (q + 1)
    have el : ∀ d : List S27, liesIn (y[q] :: d) x[i] = ((decide (y[q].f0 ≤ x[i].f0) && decide (x[i].f1 ≤ y[q].f1)) || liesIn d x[i]) := fun d => rfl
    rw [el] at hk
    obtain ⟨s, hs⟩ : ∃ s, s = y[q] := ⟨_, rfl⟩
    obtain ⟨r, hr⟩ : ∃ r, r = x[i] := ⟨_, rfl⟩
    rw [← hs, ← hr] at hk
    rw [← hr] at ih
    have e0 : ∀ k, lanyardref12_Within.l1 (k + 1) x y i b q = if b = true then lanyardref12_Within.l1 k x y i true ((q + 1 : Nat) : Int) else if s.f0 ≤ r.f0 then lanyardref12_Within.l1 k x y i (decide (r.f1 ≤ s.f1)) ((q + 1 : Nat) : Int) else lanyardref12_Within.l1 k x y i false ((q + 1 : Nat) : Int) := by
      intro k
      rw [lanyardref12_Within.l1, if_pos (by omega), wrap64_succ q (by omega)]
      rw [if_pos (show (0 : Int) ≤ (q : Int) by omega), if_pos (show (0 : Int) ≤ (i : Int) by omega), if_pos (show (i : Int) < (x.length : Int) by omega), rdN hq, rdN hi, ← hs, ← hr]
    cases hb : b with
    | true =>
      rw [hb] at hk e0
      simp only [Bool.true_or] at hk
      obtain ⟨k, hk⟩ := ih true (by omega) (by simpa using hk)
      exact ⟨k + 1, by rw [e0, if_pos rfl]; exact hk⟩
    | false =>
      rw [hb] at hk e0
      by_cases c : s.f0 ≤ r.f0
      · rw [decide_eq_true c] at hk
        obtain ⟨k, hk⟩ := ih (decide (r.f1 ≤ s.f1)) (by omega) (by simpa using hk)
        exact ⟨k + 1, by rw [e0, if_neg (by simp), if_pos c]; exact hk⟩
      · rw [decide_eq_false c] at hk
        obtain ⟨k, hk⟩ := ih false (by omega) (by simpa using hk)
        exact ⟨k + 1, by rw [e0, if_neg (by simp), if_neg c]; exact hk⟩

theorem w_l0 {x y : List S27} (hx : x.length ≤ 1000000000) (hy : y.length ≤ 1000000000) : ∀ (n i : Nat), i + n = x.length → ∃ k, lanyardref12_Within.l0 k x y i = some (withinS (x.drop i) y)
  | 0, i, h => ⟨1, by rw [lanyardref12_Within.l0, if_neg (by omega), List.drop_of_length_le (by omega)]; rfl⟩
  | n + 1, i, h => by
    have hi : i < x.length := by omega
    obtain ⟨k, hk⟩ := w_l0 hx hy n (i + 1) (by omega)
    have e : withinS (x.drop i) y = (liesIn y x[i] && withinS (x.drop (i + 1)) y) := by rw [List.drop_eq_getElem_cons hi]; rfl
    obtain ⟨k2, h2⟩ := w_l1 hx hy i hi (withinS (x.drop i) y) y.length 0 false (by omega) ⟨k, by
      rw [List.drop_zero, Bool.false_or, e]
      cases liesIn y x[i] with
      | true => rw [if_pos rfl, hk, Bool.true_and]
      | false => rfl⟩
    exact ⟨k2 + 1, by rw [lanyardref12_Within.l0, if_pos (by omega)]; exact h2⟩

theorem refwithin_f {a b : List S27} (la : a.length ≤ 1000000000) (ha : OkS a) (lb : b.length ≤ 1000000000) (hb : OkS b) : ∃ k, lanyardref12_Within.f k a b = some (withinS (joinS a) (joinS b)) := by
  obtain ⟨k1, h1⟩ := refjoin_f la ha
  obtain ⟨k2, h2⟩ := refjoin_f lb hb
  have ja := joinS_length ha
  have jb := joinS_length hb
  obtain ⟨k3, h3⟩ := w_l0 (x := joinS a) (y := joinS b) (by omega) (by omega) (joinS a).length 0 (by omega)
  rw [List.drop_zero] at h3
  refine ⟨k1 + k2 + k3, ?_⟩
  unfold lanyardref12_Within.f
  rw [le_any (f := fun k => lanyardref12_Join.f k a) (lanyardref12_Join.mono a) h1 (by omega : k1 ≤ k1 + k2 + k3), Option.bind_some, le_any (f := fun k => lanyardref12_Join.f k b) (lanyardref12_Join.mono b) h2 (by omega : k2 ≤ k1 + k2 + k3), Option.bind_some]
  exact le_any (f := fun k => lanyardref12_Within.l0 k (joinS a) (joinS b) 0) (fun k => (lanyardref12_Within.mono_l k).1 _ _ _) h3 (by omega)

theorem refhas_l0 {l : List S27} (hl : l.length ≤ 1000000000) (n : Int) (j : Nat) : ∀ (m i : Nat), i + m = l.length → lanyardref12_Has.l0 (m + j + 1) l n i = some (hasL (l.drop i) n)
  | 0, i, h => by rw [lanyardref12_Has.l0, if_neg (by omega), List.drop_of_length_le (by omega)]; rfl
  | m + 1, i, h => by
    have hi : i < l.length := by omega
    have e : hasL (l.drop i) n = ((decide (l[i].f0 ≤ n) && decide (n ≤ l[i].f1)) || hasL (l.drop (i + 1)) n) := by rw [List.drop_eq_getElem_cons hi]; rfl
    have ih := refhas_l0 hl n j m (i + 1) (by omega)
    rw [lanyardref12_Has.l0, if_pos (by omega), if_pos (by omega), rdN hi, wrap64_succ i (by omega), show m + 1 + j = m + j + 1 by omega, ih, e]
    by_cases c1 : l[i].f0 ≤ n
    · by_cases c2 : n ≤ l[i].f1
      · rw [if_pos c1, if_pos c2]; simp [c1, c2]
      · rw [if_pos c1, if_neg c2]; simp [c1, c2]
    · rw [if_neg c1]; simp [c1]

theorem refmany_l0 {l : List S27} (hl : l.length ≤ 1000000000) (ho : OkS l) (hr : ∀ r, r ∈ l → r.f0 ≤ r.f1) (j : Nat) : ∀ (m i : Nat) (x : Int), i + m = l.length → 0 ≤ x → x + manyS (l.drop i) ≤ 4294967296 → lanyardref12_Many.l0 (m + j + 1) l x i = some (x + manyS (l.drop i))
  | 0, i, x, h, h0, h1 => by
    rw [lanyardref12_Many.l0, if_neg (by omega), List.drop_of_length_le (by omega)]
    simp [manyS, Itv.many]
  | m + 1, i, x, h, h0, h1 => by
    have hi : i < l.length := by omega
    have em : manyS (l.drop i) = l[i].f1 - l[i].f0 + 1 + manyS (l.drop (i + 1)) := by rw [List.drop_eq_getElem_cons hi]; rfl
    have hok := ho l[i] (List.getElem_mem hi)
    have hlh := hr l[i] (List.getElem_mem hi)
    have hd := manyS_nonneg (l.drop (i + 1)) (fun r q => hr r (List.mem_of_mem_drop q))
    have ih := refmany_l0 hl ho hr j m (i + 1) (x + (l[i].f1 - l[i].f0 + 1)) (by omega) (by omega) (by omega)
    rw [lanyardref12_Many.l0, if_pos (by omega), if_pos (by omega), rdN hi, wrap64_succ i (by omega), show m + 1 + j = m + j + 1 by omega, wu l[i].f1 (by omega) (by omega), wu l[i].f0 (by omega) (by omega), wu (x + l[i].f1) (by omega) (by omega), wu (x + l[i].f1 - l[i].f0) (by omega) (by omega), wu (x + l[i].f1 - l[i].f0 + 1) (by omega) (by omega), show x + l[i].f1 - l[i].f0 + 1 = x + (l[i].f1 - l[i].f0 + 1) by omega, ih, em]
    congr 1
    omega

theorem refmany_f {l : List S27} (hl : l.length ≤ 1000000000) (ho : OkS l) : ∃ k, lanyardref12_Many.f k l = some (manyS (joinS l)) := by
  obtain ⟨k1, h1⟩ := refjoin_f hl ho
  obtain ⟨c1, c2, c3⟩ := joinS_told ho
  have hj := joinS_length ho
  have hn := Itv.many_nonneg c1 (okk_map c3)
  have h2 := refmany_l0 (l := joinS l) (by omega) c3 (lohiS c1) k1 (joinS l).length 0 0 (by omega) (by omega) (by simpa [manyS] using hn.2)
  rw [List.drop_zero, Int.zero_add] at h2
  refine ⟨(joinS l).length + k1 + 1, ?_⟩
  unfold lanyardref12_Many.f
  rw [le_any (f := fun k => lanyardref12_Join.f k l) (lanyardref12_Join.mono l) h1 (by omega : k1 ≤ (joinS l).length + k1 + 1), Option.bind_some]
  exact h2

end Go.Proofs.Ythedfnhbhlobiaa.AsnP
