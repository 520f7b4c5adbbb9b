/- The law AsnRises, in plain Lean. -/
import Derived.Test.YthedfnhbhlobiaaAsnP
set_option linter.unusedVariables false
namespace Go.Proofs.Ythedfnhbhlobiaa.AsnP
open Go.RowKit Go.Proofs.Ythedfnhbhlobiaa.PAsn Go.Proofs.Ythedfnhbhlobiaa.Asn Go.Proofs.YthedfnhbhlobiaaW.PrintWords

theorem wu (x : Int) (h0 : 0 ≤ x) (h1 : x ≤ 8589934592) : IntKind.u64.wrap x = x := by
  simp [IntKind.wrap, IntKind.bits, IntKind.signed]
  omega
theorem canon_get : ∀ {l : List S27}, Itv.Canon (l.map toR) → ∀ (k : Nat) (h : k + 1 < l.length), l[k].f1 + 1 < l[k + 1].f0
  | [], _, k, h => by simp at h
  | r :: l, hc, 0, h => by
    have hl : 0 < l.length := by simpa using h
    have := hc.2.1 (toR l[0]) (List.mem_map_of_mem (List.getElem_mem hl))
    exact this
  | r :: l, hc, k + 1, h => canon_get (l := l) hc.2.2 k (by simpa using h)
theorem wrap64_pred (k : Nat) (h : k ≤ 1000000000) : wrap64 (((k + 1 : Nat) : Int) - 1) = (k : Int) := by
  unfold wrap64
  omega

theorem rises_l0 {l : List S27} (hl : l.length ≤ 100) (h : OkS l) (a : Int) (j : Nat) (hj : 101 ≤ j) : ∀ (n k : Nat), k + n = (joinS l).length → lanyardlaw12_AsnRises.l0 (n + j + 1) l a true (joinS l) k = some true
  | 0, k, hk => by
    obtain ⟨h1, h2, h3⟩ := joinS_told h
    have hjl := joinS_length h
    rw [lanyardlaw12_AsnRises.l0, if_neg (by omega), join_f (by omega) h3, joinS_self h, Option.bind_some, same_f _ _ (by omega) _ (by omega), Option.bind_some, if_pos rfl, if_pos (by simp), has_f (by omega) h3, Option.bind_some, has_f (by omega) h, Option.bind_some, hasL_join h, if_pos (by simp), if_pos (by omega),
      many_f (by omega) h3 _ (by omega), Option.bind_some, many_f (by omega) h _ (by omega), Option.bind_some, joinS_self h]
    simp
  | n + 1, k, hk => by
    obtain ⟨h1, h2, h3⟩ := joinS_told h
    have hjl := joinS_length h
    have hkl : k < (joinS l).length := by omega
    have hlh := lohiS h1 _ (List.getElem_mem hkl)
    have ih := rises_l0 hl h a j hj n (k + 1) (by omega)
    rw [show n + 1 + j = n + j + 1 by omega, lanyardlaw12_AsnRises.l0, if_pos (by omega), if_pos (by omega), rdN hkl, if_neg (by omega), wrap64_succ k (by omega), ih]
    match k, hk, hkl, hlh with
    | 0, _, _, _ => rw [if_neg (by omega)]
    | k + 1, hk, hkl, hlh =>
      have hg := canon_get h1 k hkl
      have o1 := h3 _ (List.getElem_mem (show k < (joinS l).length by omega))
      have o2 := h3 _ (List.getElem_mem hkl)
      rw [if_pos (by omega), wrap64_pred k (by omega), if_pos (by omega), if_pos (by omega), rdN (show k < (joinS l).length by omega), wu (joinS l)[k].f1 o1.2.2.1 (by omega), wu _ (show (0 : Int) ≤ (joinS l)[k].f1 + 1 by omega) (by omega), wu _ o2.1 (by omega), if_neg (by omega)]

theorem rises_f (l : List S27) (h : OkS l) (a : Int) (k : Nat) (hk : 300 ≤ k) : lanyardlaw12_AsnRises.f k l a = some true := by
  unfold lanyardlaw12_AsnRises.f
  rw [awake_f k (by omega), Option.bind_some]
  by_cases hl : l.length ≤ 100
  · have hjl := joinS_length h
    rw [if_neg (by omega), join_f (by omega) h, Option.bind_some]
    obtain ⟨j, rfl⟩ : ∃ j, k = (joinS l).length + j + 1 := ⟨k - (joinS l).length - 1, by omega⟩
    exact rises_l0 hl h a j (by omega) (joinS l).length 0 (by omega)
  · rw [if_pos (by omega)]

end Go.Proofs.Ythedfnhbhlobiaa.AsnP
