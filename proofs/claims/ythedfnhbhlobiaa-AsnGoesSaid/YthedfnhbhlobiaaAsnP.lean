/- What the printed functions of layer 12 answer. -/
import Derived.Test.YthedfnhbhlobiaaPAsnx2
set_option linter.unusedVariables false
namespace Go.Proofs.Ythedfnhbhlobiaa.AsnP
open Go.RowKit Go.Proofs.Ythedfnhbhlobiaa.PAsn Go.Proofs.Ythedfnhbhlobiaa.Asn Go.Proofs.YthedfnhbhlobiaaW.PrintWords

instance decS : DecidableEq S27 := fun a b => decidable_of_iff (a.f0 = b.f0 ∧ a.f1 = b.f1) ⟨fun h => by cases a; cases b; simp_all, fun h => by subst h; exact ⟨rfl, rfl⟩⟩
theorem wrap64_succ (k : Nat) (h : k ≤ 1000000000) : wrap64 ((k : Int) + 1) = ((k + 1 : Nat) : Int) := by
  unfold wrap64
  omega
theorem rdN {l : List S27} {k : Nat} (h : k < l.length) : rd_T27 l (k : Int) = l[k] := by
  simp [rd_T27, List.getD_eq_getElem?_getD, List.getElem?_eq_getElem h]
theorem same_l0 (a b : List S27) (hl : a.length = b.length) (hm : a.length ≤ 1000000000) (j : Nat) : ∀ (n k : Nat), k + n = a.length → lanyardref12_Same.l0 (n + j + 1) a b k = some (decide (a.drop k = b.drop k))
  | 0, k, h => by
    rw [lanyardref12_Same.l0, if_neg (by omega), List.drop_of_length_le (by omega), List.drop_of_length_le (by omega)]
    rfl
  | n + 1, k, h => by
    have hk : k < a.length := by omega
    have hk2 : k < b.length := by omega
    rw [lanyardref12_Same.l0, if_pos (by omega), if_pos (by omega), if_pos (by omega), rdN hk, rdN hk2, wrap64_succ k (by omega), show n + 1 + j = n + j + 1 by omega, same_l0 a b hl hm j n (k + 1) (by omega)]
    have ec : (a.drop k = b.drop k) ↔ (a[k] = b[k] ∧ a.drop (k + 1) = b.drop (k + 1)) := by rw [List.drop_eq_getElem_cons hk, List.drop_eq_getElem_cons hk2, List.cons.injEq]
    by_cases e : a[k] = b[k]
    · rw [e, if_neg (by simp)]
      exact congrArg some (decide_eq_decide.2 (by rw [ec]; exact ⟨fun h => ⟨e, h⟩, fun h => h.2⟩))
    · rw [if_pos]
      · rw [decide_eq_false (fun h => e (ec.1 h).1)]
      · by_cases e0 : a[k].f0 = b[k].f0
        · by_cases e1 : a[k].f1 = b[k].f1
          · exact absurd (by cases hx : a[k]; cases hy : b[k]; simp_all) e
          · simp [e1]
        · simp [e0]
theorem same_f (a b : List S27) (hm : a.length ≤ 1000000000) (k : Nat) (hk : a.length < k) : lanyardref12_Same.f k a b = some (decide (a = b)) := by
  obtain ⟨j, rfl⟩ : ∃ j, k = a.length + j + 1 := ⟨k - a.length - 1, by omega⟩
  unfold lanyardref12_Same.f
  by_cases hl : a.length = b.length
  · rw [if_pos (by omega)]
    exact same_l0 a b hl hm j a.length 0 (by omega)
  · rw [if_neg (by omega), decide_eq_false (fun e => hl (by rw [e]))]

def manyS (l : List S27) : Int := Itv.many (l.map toR)
theorem many_l0 (l : List S27) (hc : Itv.Canon (l.map toR)) (ho : OkS l) (hm : l.length ≤ 1000000000) (j : Nat) : ∀ (n k : Nat) (x : Int), k + n = l.length → 0 ≤ x → x + manyS (l.drop k) ≤ 4294967296 → (∀ r, r ∈ l → r.f0 ≤ r.f1) → (∀ i, 0 ≤ manyS (l.drop i)) → asn_Many.l0 (n + j + 1) x l (l.length : Int) k = some (x + manyS (l.drop k))
  | 0, k, x, h, h0, hx, hr, hd => by
    rw [asn_Many.l0, if_neg (by omega), List.drop_of_length_le (by omega)]
    simp [manyS, Itv.many]
  | n + 1, k, x, h, h0, hx, hr, hd => by
    have hk : k < l.length := by omega
    have e := List.drop_eq_getElem_cons hk
    have hok := ho l[k] (List.getElem_mem hk)
    have hlh := hr l[k] (List.getElem_mem hk)
    have em : manyS (l.drop k) = l[k].f1 - l[k].f0 + 1 + manyS (l.drop (k + 1)) := by rw [e]; rfl
    have hd1 := hd (k + 1)
    have ew : IntKind.u64.wrap (x + ((((l[k].f1) - (l[k].f0)) % 4294967296) + 1)) = x + (l[k].f1 - l[k].f0 + 1) := by
      simp [IntKind.wrap, IntKind.bits, IntKind.signed]
      omega
    rw [asn_Many.l0, if_pos (by omega), if_pos (by omega), if_pos (by omega), rdN hk, ew, wrap64_succ k (by omega), show n + 1 + j = n + j + 1 by omega, many_l0 l hc ho hm j n (k + 1) _ (by omega) (by omega) (by omega) hr hd, em]
    congr 1
    omega

theorem joinS_told {l : List S27} (h : OkS l) : Itv.Canon ((joinS l).map toR) ∧ (∀ n, Itv.mem ((joinS l).map toR) n ↔ Itv.mem (l.map toR) n) ∧ OkS (joinS l) := by
  rw [joinS_map h]
  obtain ⟨h1, h2, h3⟩ := Itv.join_canon (okk_map h)
  refine ⟨h1, h2, ?_⟩
  rw [← joinS_map h] at h3
  exact fun r hr => h3 (toR r) (List.mem_map_of_mem hr)
theorem joinS_of {l j : List S27} (h : OkS l) (hj : Itv.Canon (j.map toR)) (hm : ∀ n, Itv.mem (j.map toR) n ↔ Itv.mem (l.map toR) n) : joinS l = j := by
  apply map_inj
  rw [joinS_map h]
  exact (Itv.join_of (okk_map h) hj hm).symm
theorem joinS_self {l : List S27} (h : OkS l) : joinS (joinS l) = joinS l := by
  obtain ⟨h1, h2, h3⟩ := joinS_told h
  exact joinS_of h3 h1 (fun _ => Iff.rfl)
theorem hasL_iff (l : List S27) (n : Int) : hasL l n = true ↔ Itv.mem (l.map toR) n := by
  unfold hasL inS Itv.mem
  rw [List.any_eq_true]
  constructor
  · rintro ⟨r, hr, h⟩
    simp at h
    exact ⟨toR r, List.mem_map_of_mem hr, h.1, h.2⟩
  · rintro ⟨r, hr, h1, h2⟩
    obtain ⟨s, hs, rfl⟩ := List.mem_map.1 hr
    exact ⟨s, hs, by simpa using ⟨h1, h2⟩⟩
theorem hasL_join {l : List S27} (h : OkS l) (n : Int) : hasL (joinS l) n = hasL l n := by
  rw [Bool.eq_iff_iff, hasL_iff, hasL_iff]
  exact (joinS_told h).2.1 n
theorem lohiS {l : List S27} (h : Itv.Canon (l.map toR)) : ∀ r, r ∈ l → r.f0 ≤ r.f1 := fun r hr => Itv.canon_lohi h (toR r) (List.mem_map_of_mem hr)
theorem manyS_nonneg : ∀ (l : List S27), (∀ r, r ∈ l → r.f0 ≤ r.f1) → 0 ≤ manyS l
  | [], _ => Int.le_refl _
  | r :: l, h => by
    have h1 := manyS_nonneg l (fun s hs => h s (List.mem_cons_of_mem _ hs))
    have h2 := h r List.mem_cons_self
    have : manyS (r :: l) = r.f1 - r.f0 + 1 + manyS l := rfl
    omega
theorem dom_of {l : List S27} (hl : l.length ≤ 1000000000) (h : OkS l) : dom l = true := (dom_iff l).2 ⟨hl, h⟩
theorem join_f {l : List S27} (hl : l.length ≤ 1000000000) (h : OkS l) : asn_Join.f l = some (joinS l) := by
  unfold asn_Join.f
  rw [if_pos (dom_of hl h)]
theorem has_f {l : List S27} (hl : l.length ≤ 1000000000) (h : OkS l) (n : Int) : asn_Has.f l n = some (hasL l n) := by
  unfold asn_Has.f
  rw [if_pos (dom_of hl h)]
theorem many_f {l : List S27} (hl : l.length ≤ 1000000000) (h : OkS l) (k : Nat) (hk : l.length < k) : asn_Many.f k l = some (manyS (joinS l)) := by
  obtain ⟨h1, h2, h3⟩ := joinS_told h
  have hj := joinS_length h
  have hn := Itv.many_nonneg h1 (okk_map h3)
  obtain ⟨j, rfl⟩ : ∃ j, k = (joinS l).length + j + 1 := ⟨k - (joinS l).length - 1, by omega⟩
  unfold asn_Many.f
  rw [join_f hl h]
  have := many_l0 (joinS l) h1 h3 (by omega) j (joinS l).length 0 0 (by omega) (by omega) (by simpa [manyS] using hn.2) (lohiS h1) (fun i => manyS_nonneg _ (fun r hr => lohiS h1 r (List.mem_of_mem_drop hr)))
  simpa using this
def w3 : List S27 := [⟨4, 9⟩, ⟨1, 3⟩, ⟨20, 19⟩]
theorem w3_ok : OkS w3 := by
  intro r hr
  simp [w3] at hr
  rcases hr with rfl | rfl | rfl <;> decide
theorem w3_join : joinS w3 = [⟨1, 9⟩] := by
  refine joinS_of w3_ok ?_ ?_
  · simp [toR, Itv.Canon]
  · intro n
    simp only [w3, toR, List.map_cons, List.map_nil, Itv.mem_cons]
    have : ∀ n, ¬ Itv.mem [] n := Itv.mem_nil
    simp only [this, or_false]
    omega
theorem awake_f (k : Nat) (hk : 2 ≤ k) : lanyardlaw12_awake.f k = some true := by
  have h9 : OkS [(⟨1, 9⟩ : S27)] := by rw [← w3_join]; exact (joinS_told w3_ok).2.2
  have hj : joinS [(⟨1, 9⟩ : S27)] = [⟨1, 9⟩] := by rw [← w3_join]; exact joinS_self w3_ok
  unfold lanyardlaw12_awake.f
  rw [show ([(⟨4, 9⟩ : S27), (⟨1, 3⟩ : S27), (⟨20, 19⟩ : S27)] : List S27) = w3 from rfl, join_f (by decide) w3_ok, w3_join]
  rw [Option.bind_some, has_f (by decide) h9, many_f (by decide) h9 k (by simp; omega), hj]
  rfl

end Go.Proofs.Ythedfnhbhlobiaa.AsnP
