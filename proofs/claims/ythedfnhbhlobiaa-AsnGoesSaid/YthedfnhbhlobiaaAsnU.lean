/- The law AsnOne, in plain Lean. -/
import Derived.Test.YthedfnhbhlobiaaAsnQ
import Derived.Test.YthedfnhbhlobiaaPAsnx5
set_option linter.unusedVariables false
namespace Go.Proofs.Ythedfnhbhlobiaa.AsnP
open Go.RowKit Go.Proofs.Ythedfnhbhlobiaa.PAsn Go.Proofs.Ythedfnhbhlobiaa.Asn Go.Proofs.YthedfnhbhlobiaaW.PrintWords

theorem within_iff {a b : List S27} (ha : OkS a) (hb : OkS b) : withinS (joinS a) (joinS b) = true ↔ ∀ n, Itv.mem (a.map toR) n → Itv.mem (b.map toR) n := by
  obtain ⟨a1, a2, a3⟩ := joinS_told ha
  obtain ⟨b1, b2, b3⟩ := joinS_told hb
  unfold withinS liesIn
  rw [List.all_eq_true]
  constructor
  · intro h n hn
    obtain ⟨r, hr, h1, h2⟩ := (a2 n).2 hn
    obtain ⟨s, hs, rfl⟩ := List.mem_map.1 hr
    have h3 := h s hs
    rw [List.any_eq_true] at h3
    obtain ⟨t, ht, h4⟩ := h3
    simp at h4
    exact (b2 n).1 ⟨toR t, List.mem_map_of_mem ht, Int.le_trans h4.1 h1, Int.le_trans h2 h4.2⟩
  · intro h s hs
    have hlh := lohiS a1 s hs
    obtain ⟨r, hr, h1, h2⟩ := Itv.canon_within b1 s.f0 s.f1 hlh (fun n h1 h2 => (b2 n).2 (h n ((a2 n).1 ⟨toR s, List.mem_map_of_mem hs, h1, h2⟩)))
    obtain ⟨t, ht, rfl⟩ := List.mem_map.1 hr
    rw [List.any_eq_true]
    exact ⟨t, ht, by simpa using ⟨h1, h2⟩⟩
theorem within_f {a b : List S27} (la : a.length ≤ 1000000000) (ha : OkS a) (lb : b.length ≤ 1000000000) (hb : OkS b) : asn_Within.f a b = some (withinS (joinS a) (joinS b)) := by
  unfold asn_Within.f
  rw [if_pos ⟨dom_of la ha, dom_of lb hb⟩]
theorem ok_append {a b : List S27} (ha : OkS a) (hb : OkS b) : OkS (a ++ b) := fun r hr => (List.mem_append.1 hr).elim (ha r) (hb r)
theorem many_or {a b : List S27} (ha : OkS a) (hb : OkS b) : manyS (joinS (a ++ b)) ≤ manyS (joinS a) + manyS (joinS b) := by
  obtain ⟨a1, a2, a3⟩ := joinS_told ha
  obtain ⟨b1, b2, b3⟩ := joinS_told hb
  obtain ⟨c1, c2, c3⟩ := joinS_told (ok_append ha hb)
  refine Itv.many_or a1 b1 c1 (okk_map a3) (okk_map b3) (okk_map c3) (fun n hn => ?_)
  rw [a2, b2]
  have := (c2 n).1 hn
  rw [List.map_append, Itv.mem_append] at this
  exact this
theorem one_within {a : List S27} (ha : OkS a) (n : Int) (h0 : 0 ≤ n) (h1 : n ≤ 4294967295) (ho : OkS [(⟨n, n⟩ : S27)]) : withinS (joinS [(⟨n, n⟩ : S27)]) (joinS a) = hasL a n := by
  rw [Bool.eq_iff_iff, within_iff ho ha, hasL_iff]
  have e : ∀ m, Itv.mem ([(⟨n, n⟩ : S27)].map toR) m ↔ m = n := fun m => by
    simp only [List.map_cons, List.map_nil, toR, Itv.mem_cons]
    have : ∀ n, ¬ Itv.mem [] n := Itv.mem_nil
    simp only [this, or_false]
    omega
  exact ⟨fun h => h n ((e n).2 rfl), fun h m hm => by rw [(e m).1 hm]; exact h⟩

theorem hasL_append (a b : List S27) (n : Int) : hasL (a ++ b) n = (hasL a n || hasL b n) := by simp [hasL]
theorem mem_left {a b : List S27} (ha : OkS a) (hb : OkS b) : withinS (joinS a) (joinS (a ++ b)) = true := by
  rw [within_iff ha (ok_append ha hb)]
  intro n hn
  rw [List.map_append, Itv.mem_append]
  exact .inl hn
theorem manyB {a : List S27} (ha : OkS a) : 0 ≤ manyS (joinS a) ∧ manyS (joinS a) ≤ 4294967296 := by
  obtain ⟨a1, a2, a3⟩ := joinS_told ha
  exact Itv.many_nonneg a1 (okk_map a3)
theorem one_j (a b : List S27) (ha : OkS a) (hb : OkS b) (n : Int) (h0 : 0 ≤ n) (h1 : n ≤ 4294967295) (la : a.length ≤ 60) (lb : b.length ≤ 60) (k : Nat) (hk : 200 ≤ k) : lanyardlaw12_AsnOne.j0 (k + 1) a b n true false = some true := by
  have hab := ok_append ha hb
  have lab : (a ++ b).length ≤ 120 := by simp; omega
  have ho : OkS [(⟨n, n⟩ : S27)] := fun r hr => by simp at hr; subst hr; exact ⟨h0, h1, h0, h1⟩
  have m1 := manyB ha
  have m2 := manyB hb
  have m3 := many_or ha hb
  rw [lanyardlaw12_AsnOne.j0, if_neg (by simp), Option.bind_some, if_pos (by simp; omega), Option.bind_some, if_pos (by simp; omega), Option.bind_some, if_pos rfl, List.nil_append,
    within_f (by simp) ho (by omega) ha, Option.bind_some, has_f (by omega) ha, Option.bind_some, one_within ha n h0 h1 ho, if_pos (by simp), has_f (by omega) hab, Option.bind_some, Option.bind_some, has_f (by omega) hb,
    within_f (by omega) ha (by omega) hab, mem_left ha hb, many_f (by omega) hab k (by omega), many_f (by omega) ha k (by omega), many_f (by omega) hb k (by omega), hasL_append]
  simp only [Option.bind_some, wu _ (show (0 : Int) ≤ manyS (joinS a) + manyS (joinS b) by omega) (by omega), decide_eq_true m3]
  cases hasL a n <;> cases hasL b n <;> simp
theorem one_f (a b : List S27) (ha : OkS a) (hb : OkS b) (n : Int) (h0 : 0 ≤ n) (h1 : n ≤ 4294967295) (k : Nat) (hk : 201 ≤ k) : lanyardlaw12_AsnOne.f k a b n = some true := by
  obtain ⟨j, rfl⟩ : ∃ j, k = j + 1 := ⟨k - 1, by omega⟩
  unfold lanyardlaw12_AsnOne.f
  rw [awake_f _ (by omega), Option.bind_some]
  by_cases la : a.length ≤ 60
  · rw [if_neg (by omega)]
    by_cases lb : b.length ≤ 60
    · rw [decide_eq_false (by omega)]
      exact one_j a b ha hb n h0 h1 la lb j (by omega)
    · rw [decide_eq_true (by omega), lanyardlaw12_AsnOne.j0, if_pos rfl]
  · rw [if_pos (by omega), lanyardlaw12_AsnOne.j0, if_pos rfl]

end Go.Proofs.Ythedfnhbhlobiaa.AsnP
