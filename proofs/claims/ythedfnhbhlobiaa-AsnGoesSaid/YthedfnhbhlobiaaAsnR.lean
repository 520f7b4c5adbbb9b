/- The reference's Join: it comes to joinS. -/
import Derived.Test.YthedfnhbhlobiaaAsnU
import Derived.Test.YthedfnhbhlobiaaPAsnx3
set_option linter.unusedVariables false
namespace Go.Proofs.Ythedfnhbhlobiaa.AsnP
open Go.RowKit Go.Proofs.Ythedfnhbhlobiaa.PAsn Go.Proofs.Ythedfnhbhlobiaa.Asn Go.Proofs.YthedfnhbhlobiaaW.PrintWords

def step3 (s : Int × Bool) (r : S27) : Int × Bool := if r.f0 ≤ r.f1 ∧ r.f0 ≤ s.1 + 1 ∧ s.1 < r.f1 then (r.f1, true) else s
def step1 (at_ lo : Int) (r : S27) : Int := if r.f0 ≤ r.f1 ∧ at_ ≤ r.f1 then min lo (max r.f0 at_) else lo

theorem l3_spec {l : List S27} (hl : l.length ≤ 1000000000) (ho : OkS l) (out : List S27) (lo : Int) (res : List S27) : ∀ (n i : Nat) (hi : Int) (b : Bool), i + n = l.length → 0 ≤ hi → hi ≤ 4294967295 →
    (∃ k, lanyardref12_Join.l2 k l out lo ((l.drop i).foldl step3 (hi, b)).1 ((l.drop i).foldl step3 (hi, b)).2 = some res) → ∃ k, lanyardref12_Join.l3 k l out lo hi b i = some res
  | 0, i, hi, b, h, h0, h1, ⟨k, hk⟩ => by
    rw [List.drop_of_length_le (by omega)] at hk
    exact ⟨k + 1, by rw [lanyardref12_Join.l3, if_neg (by omega)]; exact hk⟩
  | n + 1, i, hi, b, h, h0, h1, hk => by
    have hil : i < l.length := by omega
    have hok := ho l[i] (List.getElem_mem hil)
    rw [List.drop_eq_getElem_cons hil, List.foldl_cons] at hk
    have ih := l3_spec hl ho out lo res n (i + 1)
    obtain ⟨p, hp⟩ : ∃ p, p = l[i] := ⟨_, rfl⟩
    rw [← hp] at hk hok
    have w1 := wu p.f0 hok.1 (by omega)
    have w2 := wu p.f1 hok.2.2.1 (by omega)
    have w3 := wu (hi + 1) (by omega) (by omega)
    by_cases c : p.f0 ≤ p.f1 ∧ p.f0 ≤ hi + 1 ∧ hi < p.f1
    · rw [show step3 (hi, b) p = (p.f1, true) from if_pos c] at hk
      obtain ⟨k, hk⟩ := ih p.f1 true (by omega) (by omega) (by omega) hk
      exact ⟨k + 1, by rw [lanyardref12_Join.l3, if_pos (by omega), if_pos (by omega), rdN hil, ← hp, w1, w2, w3, wrap64_succ i (by omega), if_pos c.1, if_pos c.2.1, if_pos c.2.2]; exact hk⟩
    · rw [show step3 (hi, b) p = (hi, b) from if_neg c] at hk
      obtain ⟨k, hk⟩ := ih hi b (by omega) h0 h1 hk
      refine ⟨k + 1, ?_⟩
      rw [lanyardref12_Join.l3, if_pos (by omega), if_pos (by omega), rdN hil, ← hp, w1, w2, w3, wrap64_succ i (by omega)]
      by_cases c1 : p.f0 ≤ p.f1
      · rw [if_pos c1]
        by_cases c2 : p.f0 ≤ hi + 1
        · rw [if_pos c2, if_neg (fun c3 => c ⟨c1, c2, c3⟩)]; exact hk
        · rw [if_neg c2]; exact hk
      · rw [if_neg c1]; exact hk

theorem l1_spec {l : List S27} (hl : l.length ≤ 1000000000) (ho : OkS l) (out : List S27) (at_ : Int) (res : List S27) : ∀ (n i : Nat) (lo : Int), i + n = l.length →
    (∃ k, (if (l.drop i).foldl (step1 at_) lo = 4294967296 then some out else lanyardref12_Join.l2 k l out ((l.drop i).foldl (step1 at_) lo) ((l.drop i).foldl (step1 at_) lo) true) = some res) → ∃ k, lanyardref12_Join.l1 k l out at_ lo i = some res
  | 0, i, lo, h, ⟨k, hk⟩ => by
    rw [List.drop_of_length_le (by omega)] at hk
    exact ⟨k + 1, by rw [lanyardref12_Join.l1, if_neg (by omega)]; exact hk⟩
  | n + 1, i, lo, h, hk => by
    have hil : i < l.length := by omega
    have hok := ho l[i] (List.getElem_mem hil)
    rw [List.drop_eq_getElem_cons hil] at hk
    simp only [List.foldl_cons] at hk
    have ih := l1_spec hl ho out at_ res n (i + 1)
    obtain ⟨p, hp⟩ : ∃ p, p = l[i] := ⟨_, rfl⟩
    rw [← hp] at hk hok
    have w1 := wu p.f0 hok.1 (by omega)
    have w2 := wu p.f1 hok.2.2.1 (by omega)
    have wm : ∀ a b : Int, mn a b = min a b := fun a b => by unfold mn; omega
    have wx : ∀ a b : Int, mx a b = max a b := fun a b => by unfold mx; omega
    obtain ⟨k, hk⟩ := ih (step1 at_ lo p) (by omega) hk
    refine ⟨k + 1, ?_⟩
    rw [lanyardref12_Join.l1, if_pos (by omega), if_pos (by omega), rdN hil, ← hp, w1, w2, wrap64_succ i (by omega), wm, wx]
    unfold step1 at hk
    by_cases c1 : p.f0 ≤ p.f1
    · rw [if_pos c1]
      by_cases c2 : at_ ≤ p.f1
      · rw [if_pos c2]; rw [if_pos ⟨c1, c2⟩] at hk; exact hk
      · rw [if_neg c2]; rw [if_neg (fun c => c2 c.2)] at hk; exact hk
    · rw [if_neg c1]; rw [if_neg (fun c => c1 c.1)] at hk; exact hk

theorem mem_iff (l : List S27) (n : Int) : Itv.mem (l.map toR) n ↔ ∃ r, r ∈ l ∧ r.f0 ≤ n ∧ n ≤ r.f1 := by
  constructor
  · rintro ⟨p, hp, h⟩
    obtain ⟨r, hr, rfl⟩ := List.mem_map.1 hp
    exact ⟨r, hr, h⟩
  · rintro ⟨r, hr, h⟩
    exact ⟨toR r, List.mem_map_of_mem hr, h⟩

theorem step1_fold (at_ : Int) : ∀ (l : List S27) (lo : Int), l.foldl (step1 at_) lo ≤ lo ∧ (∀ r, r ∈ l → r.f0 ≤ r.f1 → at_ ≤ r.f1 → l.foldl (step1 at_) lo ≤ max r.f0 at_) ∧ (l.foldl (step1 at_) lo = lo ∨ ∃ r, r ∈ l ∧ r.f0 ≤ r.f1 ∧ at_ ≤ r.f1 ∧ l.foldl (step1 at_) lo = max r.f0 at_)
  | [], lo => ⟨Int.le_refl _, fun r hr => (by cases hr), .inl rfl⟩
  | p :: l, lo => by
    obtain ⟨h1, h2, h3⟩ := step1_fold at_ l (step1 at_ lo p)
    have hs : (p.f0 ≤ p.f1 ∧ at_ ≤ p.f1 ∧ step1 at_ lo p = min lo (max p.f0 at_)) ∨ (¬ (p.f0 ≤ p.f1 ∧ at_ ≤ p.f1) ∧ step1 at_ lo p = lo) := by
      by_cases c : p.f0 ≤ p.f1 ∧ at_ ≤ p.f1
      · exact .inl ⟨c.1, c.2, if_pos c⟩
      · exact .inr ⟨c, if_neg c⟩
    rw [List.foldl_cons]
    generalize l.foldl (step1 at_) (step1 at_ lo p) = res at h1 h2 h3 ⊢
    generalize step1 at_ lo p = s at h1 h3 hs
    refine ⟨by omega, fun r hr a b => ?_, ?_⟩
    · rcases List.mem_cons.1 hr with rfl | hr
      · omega
      · exact h2 r hr a b
    · rcases h3 with rfl | ⟨r, hr, c⟩
      · rcases hs with ⟨a, b, c⟩ | ⟨_, c⟩
        · by_cases d : lo ≤ max p.f0 at_
          · exact .inl (by omega)
          · exact .inr ⟨p, List.mem_cons_self, a, b, by omega⟩
        · exact .inl c
      · exact .inr ⟨r, List.mem_cons_of_mem _ hr, c⟩

theorem step3_fold : ∀ (l : List S27) (hi : Int) (b : Bool), OkS l → hi ≤ 4294967295 → hi ≤ (l.foldl step3 (hi, b)).1 ∧ (l.foldl step3 (hi, b)).1 ≤ 4294967295 ∧
    ((l.foldl step3 (hi, b)).2 = false → b = false ∧ (l.foldl step3 (hi, b)).1 = hi ∧ ∀ r, r ∈ l → ¬ (r.f0 ≤ r.f1 ∧ r.f0 ≤ hi + 1 ∧ hi < r.f1)) ∧
    ((l.foldl step3 (hi, b)).2 = true → b = true ∨ hi < (l.foldl step3 (hi, b)).1) ∧
    (∀ n, hi < n → n ≤ (l.foldl step3 (hi, b)).1 → ∃ r, r ∈ l ∧ r.f0 ≤ n ∧ n ≤ r.f1)
  | [], hi, b, ho, h => ⟨Int.le_refl _, h, fun e => ⟨e, rfl, fun r hr => (by cases hr)⟩, fun e => .inl e, fun n h1 (h2 : n ≤ hi) => by omega⟩
  | p :: l, hi, b, ho, h => by
    have hp := ho p List.mem_cons_self
    have ho' : OkS l := fun r hr => ho r (List.mem_cons_of_mem _ hr)
    rw [List.foldl_cons]
    by_cases c : p.f0 ≤ p.f1 ∧ p.f0 ≤ hi + 1 ∧ hi < p.f1
    · rw [show step3 (hi, b) p = (p.f1, true) from if_pos c]
      obtain ⟨h1, h2, h3, h4, h5⟩ := step3_fold l p.f1 true ho' (by omega)
      refine ⟨by omega, h2, fun e => (by cases (h3 e).1), fun _ => .inr (by omega), fun n a d => ?_⟩
      by_cases q : n ≤ p.f1
      · exact ⟨p, List.mem_cons_self, by omega, q⟩
      · obtain ⟨r, hr, z⟩ := h5 n (by omega) d
        exact ⟨r, List.mem_cons_of_mem _ hr, z⟩
    · rw [show step3 (hi, b) p = (hi, b) from if_neg c]
      obtain ⟨h1, h2, h3, h4, h5⟩ := step3_fold l hi b ho' h
      refine ⟨h1, h2, fun e => ⟨(h3 e).1, (h3 e).2.1, fun r hr => ?_⟩, h4, fun n a d => ?_⟩
      · rcases List.mem_cons.1 hr with rfl | hr
        · exact c
        · exact (h3 e).2.2 r hr
      · obtain ⟨r, hr, z⟩ := h5 n a d
        exact ⟨r, List.mem_cons_of_mem _ hr, z⟩

theorem l2_spec {l : List S27} (hl : l.length ≤ 1000000000) (ho : OkS l) (out : List S27) (hout : out.length < 17592186044416) (lo : Int) (h0 : 0 ≤ lo) (res : List S27)
    (hres : ∀ h, lo ≤ h → h ≤ 4294967295 → (∀ n, lo ≤ n → n ≤ h → Itv.mem (l.map toR) n) → ¬ Itv.mem (l.map toR) (h + 1) → ∃ k, lanyardref12_Join.l0 k l (out ++ [⟨lo, h⟩]) (h + 1) = some res) :
    ∀ (m : Nat) (hi : Int), (4294967295 - hi).toNat ≤ m → lo ≤ hi → hi ≤ 4294967295 → (∀ n, lo ≤ n → n ≤ hi → Itv.mem (l.map toR) n) → ∃ k, lanyardref12_Join.l2 k l out lo hi true = some res
  | m, hi, hm, h1, h2, hc => by
    obtain ⟨a1, a2, a3, a4, a5⟩ := step3_fold l hi false ho h2
    have go := l3_spec hl ho out lo res l.length 0 hi false (by omega) (by omega) h2
    rw [List.drop_zero] at go
    have hc' : ∀ n, lo ≤ n → n ≤ (l.foldl step3 (hi, false)).1 → Itv.mem (l.map toR) n := by
      intro n b1 b2
      by_cases c : n ≤ hi
      · exact hc n b1 c
      · exact (mem_iff l n).2 (a5 n (by omega) b2)
    generalize (l.foldl step3 (hi, false)).1 = hi' at a1 a2 a3 a4 a5 go hc'
    have fin : (∃ k, lanyardref12_Join.l2 k l out lo hi' (l.foldl step3 (hi, false)).2 = some res) → ∃ k, lanyardref12_Join.l2 k l out lo hi true = some res := by
      intro hk
      obtain ⟨k, hk⟩ := go hk
      exact ⟨k + 1, by rw [lanyardref12_Join.l2, if_pos rfl]; exact hk⟩
    apply fin
    cases hb : (l.foldl step3 (hi, false)).2 with
    | true =>
      rcases a4 hb with e | e
      · cases e
      · cases m with
        | zero => omega
        | succ m => exact l2_spec hl ho out hout lo h0 res hres m hi' (by omega) (by omega) a2 hc'
    | false =>
      obtain ⟨_, e, q⟩ := a3 hb
      subst e
      obtain ⟨k, hk⟩ := hres hi' h1 a2 hc' (fun hmem => by
        obtain ⟨r, hr, z1, z2⟩ := (mem_iff l _).1 hmem
        exact q r hr ⟨by omega, by omega, by omega⟩)
      refine ⟨k + 1, ?_⟩
      rw [lanyardref12_Join.l2, if_neg (by simp), if_pos hout, Int.emod_eq_of_lt h0 (by omega), Int.emod_eq_of_lt (by omega) (by omega), wu (hi' + 1) (by omega) (by omega)]
      exact hk

theorem l0_spec {l : List S27} (hl : l.length ≤ 1000000000) (ho : OkS l) : ∀ (m : Nat) (out : List S27) (at_ : Int), (4294967296 - at_).toNat ≤ m → 0 ≤ at_ → at_ ≤ 4294967296 → (out.length : Int) ≤ at_ → Itv.Canon (out.map toR) → (∀ n, Itv.mem (out.map toR) n ↔ Itv.mem (l.map toR) n ∧ n < at_) → (out = [] ∨ ¬ Itv.mem (l.map toR) at_) → ∃ k, lanyardref12_Join.l0 k l out at_ = some (joinS l)
  | m, out, at_, hm, h0, h1, hlen, hc, hmem, hgap => by
    obtain ⟨a1, a2, a3⟩ := step1_fold at_ l 4294967296
    have go := l1_spec hl ho out at_ (joinS l) l.length 0 4294967296 (by omega)
    rw [List.drop_zero] at go
    have a2' : ∀ n, Itv.mem (l.map toR) n → at_ ≤ n → l.foldl (step1 at_) 4294967296 ≤ n := by
      intro n hn ha
      obtain ⟨r, hr, z1, z2⟩ := (mem_iff l n).1 hn
      have := a2 r hr (by omega) (by omega)
      omega
    generalize l.foldl (step1 at_) 4294967296 = lo at a1 a2 a3 a2' go
    have fin : (∃ k, (if lo = 4294967296 then some out else lanyardref12_Join.l2 k l out lo lo true) = some (joinS l)) → ∃ k, lanyardref12_Join.l0 k l out at_ = some (joinS l) := by
      intro hk
      obtain ⟨k, hk⟩ := go hk
      exact ⟨k + 1, by rw [lanyardref12_Join.l0]; exact hk⟩
    apply fin
    by_cases hlo : lo = 4294967296
    · refine ⟨0, ?_⟩
      rw [if_pos hlo]
      have := joinS_of ho hc (fun n => by
        rw [hmem n]
        constructor
        · exact fun h => h.1
        · intro hn
          refine ⟨hn, ?_⟩
          by_cases c : n < at_
          · exact c
          · obtain ⟨r, hr, z1, z2⟩ := (mem_iff l n).1 hn
            have := ho r hr
            have := a2' n hn (by omega)
            omega)
      rw [this]
    · rcases a3 with e | ⟨r, hr, c1, c2, c3⟩
      · exact absurd e hlo
      · have hok := ho r hr
        have hlm : Itv.mem (l.map toR) lo := (mem_iff l lo).2 ⟨r, hr, by omega, by omega⟩
        simp only [if_neg hlo]
        refine l2_spec hl ho out (by omega) lo (by omega) (joinS l) ?_ _ lo (Nat.le_refl _) (Int.le_refl _) (by omega) (fun n b1 b2 => by rw [show n = lo by omega]; exact hlm)
        intro h d1 d2 d3 d4
        cases m with
        | zero => omega
        | succ m =>
          refine l0_spec hl ho m _ (h + 1) (by omega) (by omega) (by omega) (by rw [List.length_append, List.length_singleton]; omega) ?_ ?_ (.inr d4)
          · rw [List.map_append]
            refine (Itv.canon_snoc _ _).2 ⟨hc, d1, fun s hs => ?_⟩
            have hs2 : Itv.mem (out.map toR) s.2 := ⟨s, hs, Itv.canon_lohi hc s hs, Int.le_refl _⟩
            have := ((hmem s.2).1 hs2).2
            show s.2 + 1 < lo
            rcases hgap with e | e
            · subst e; cases hs
            · have : lo ≠ at_ := fun q => e (q ▸ hlm)
              omega
          · intro n
            rw [List.map_append, Itv.mem_append, hmem n]
            show _ ∨ Itv.mem [(lo, h)] n ↔ _
            rw [Itv.mem_cons]
            constructor
            · rintro (⟨q1, q2⟩ | ⟨q1, q2⟩ | q)
              · exact ⟨q1, by omega⟩
              · exact ⟨d3 n q1 q2, by have q2' : n ≤ h := q2; omega⟩
              · exact absurd q (Itv.mem_nil _)
            · rintro ⟨q1, q2⟩
              by_cases c : n < at_
              · exact .inl ⟨q1, c⟩
              · exact .inr (.inl ⟨a2' n q1 (by omega), by show n ≤ h; omega⟩)

theorem refjoin_f {l : List S27} (hl : l.length ≤ 1000000000) (ho : OkS l) : ∃ k, lanyardref12_Join.f k l = some (joinS l) :=
  l0_spec hl ho _ [] 0 (Nat.le_refl _) (Int.le_refl _) (by decide) (by decide) trivial (fun n => ⟨fun h => absurd h (Itv.mem_nil _), fun ⟨h, h2⟩ => by
    obtain ⟨r, hr, z1, z2⟩ := (mem_iff l n).1 h
    have := ho r hr
    omega⟩) (.inl rfl)
end Go.Proofs.Ythedfnhbhlobiaa.AsnP
