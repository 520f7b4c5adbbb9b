/- Plain: lists of intervals of whole numbers: joined, compared, counted. No program in sight. -/
namespace Go.Proofs.Ythedfnhbhlobiaa.Itv

abbrev R := Int × Int
def mem (l : List R) (n : Int) : Prop := ∃ r, r ∈ l ∧ r.1 ≤ n ∧ n ≤ r.2
/-- Rising, each with at least one number, with gaps between. -/
def Canon : List R → Prop
  | [] => True
  | r :: l => r.1 ≤ r.2 ∧ (∀ s, s ∈ l → r.2 + 1 < s.1) ∧ Canon l

theorem mem_nil (n : Int) : ¬ mem [] n := by rintro ⟨r, h, _⟩; cases h
theorem mem_cons (r : R) (l : List R) (n : Int) : mem (r :: l) n ↔ (r.1 ≤ n ∧ n ≤ r.2) ∨ mem l n := by
  constructor
  · rintro ⟨s, hs, h⟩
    rcases List.mem_cons.1 hs with rfl | hs
    · exact .inl h
    · exact .inr ⟨s, hs, h⟩
  · rintro (h | ⟨s, hs, h⟩)
    · exact ⟨r, List.mem_cons_self, h⟩
    · exact ⟨s, List.mem_cons_of_mem _ hs, h⟩
theorem mem_append (a b : List R) (n : Int) : mem (a ++ b) n ↔ mem a n ∨ mem b n := by
  constructor
  · rintro ⟨s, hs, h⟩
    rcases List.mem_append.1 hs with hs | hs
    · exact .inl ⟨s, hs, h⟩
    · exact .inr ⟨s, hs, h⟩
  · rintro (⟨s, hs, h⟩ | ⟨s, hs, h⟩)
    · exact ⟨s, List.mem_append_left _ hs, h⟩
    · exact ⟨s, List.mem_append_right _ hs, h⟩
theorem mem_perm {a b : List R} (h : a.Perm b) (n : Int) : mem a n ↔ mem b n :=
  ⟨fun ⟨r, hr, k⟩ => ⟨r, h.mem_iff.1 hr, k⟩, fun ⟨r, hr, k⟩ => ⟨r, h.mem_iff.2 hr, k⟩⟩

theorem canon_ge {r : R} {l : List R} (h : Canon (r :: l)) {n : Int} (hn : mem (r :: l) n) : r.1 ≤ n := by
  rcases (mem_cons r l n).1 hn with h1 | ⟨s, hs, h1⟩
  · exact h1.1
  · have := h.2.1 s hs
    have := h.1
    omega
theorem canon_gap {r : R} {l : List R} (h : Canon (r :: l)) : ¬ mem (r :: l) (r.2 + 1) := by
  intro hn
  rcases (mem_cons r l _).1 hn with h1 | ⟨s, hs, h1⟩
  · omega
  · have := h.2.1 s hs
    omega
theorem canon_tail {r : R} {l : List R} (h : Canon (r :: l)) (n : Int) : mem l n ↔ mem (r :: l) n ∧ r.2 < n := by
  constructor
  · rintro ⟨s, hs, h1⟩
    exact ⟨⟨s, List.mem_cons_of_mem _ hs, h1⟩, by have := h.2.1 s hs; omega⟩
  · rintro ⟨hn, h1⟩
    rcases (mem_cons r l n).1 hn with h2 | h2
    · omega
    · exact h2
/-- There is one such list of a set of numbers. -/
theorem canon_unique : ∀ (a b : List R), Canon a → Canon b → (∀ n, mem a n ↔ mem b n) → a = b
  | [], [], _, _, _ => rfl
  | [], s :: b, _, hb, h => absurd ((h s.1).2 ⟨s, List.mem_cons_self, Int.le_refl _, hb.1⟩) (mem_nil _)
  | r :: a, [], ha, _, h => absurd ((h r.1).1 ⟨r, List.mem_cons_self, Int.le_refl _, ha.1⟩) (mem_nil _)
  | r :: a, s :: b, ha, hb, h => by
    have h1 : s.1 ≤ r.1 := canon_ge hb ((h r.1).1 ⟨r, List.mem_cons_self, Int.le_refl _, ha.1⟩)
    have h2 : r.1 ≤ s.1 := canon_ge ha ((h s.1).2 ⟨s, List.mem_cons_self, Int.le_refl _, hb.1⟩)
    have h3 : ¬ r.2 < s.2 := fun hlt => canon_gap ha ((h _).2 ⟨s, List.mem_cons_self, by have := ha.1; omega, by omega⟩)
    have h4 : ¬ s.2 < r.2 := fun hlt => canon_gap hb ((h _).1 ⟨r, List.mem_cons_self, by have := hb.1; omega, by omega⟩)
    have e : r = s := Prod.ext (by omega) (by omega)
    subst e
    have := canon_unique a b ha.2.2 hb.2.2 (fun n => by rw [canon_tail ha n, canon_tail hb n, h n])
    rw [this]
theorem canon_snoc (l : List R) (r : R) : Canon (l ++ [r]) ↔ Canon l ∧ r.1 ≤ r.2 ∧ ∀ s, s ∈ l → s.2 + 1 < r.1 := by
  induction l with
  | nil => simp [Canon]
  | cons a l ih =>
    simp only [List.cons_append, Canon, ih, List.mem_append, List.mem_cons, List.not_mem_nil, or_false]
    constructor
    · rintro ⟨h1, h2, h3, h4, h5⟩
      exact ⟨⟨h1, fun s hs => h2 s (.inl hs), h3⟩, h4, fun s hs => hs.elim (fun e => e ▸ h2 r (.inr rfl)) (h5 s)⟩
    · rintro ⟨⟨h1, h2, h3⟩, h4, h5⟩
      exact ⟨h1, fun s hs => hs.elim (h2 s) (fun e => e ▸ h5 a (.inl rfl)), h3, h4, fun s hs => h5 s (.inr hs)⟩
theorem canon_lohi {l : List R} (h : Canon l) : ∀ r, r ∈ l → r.1 ≤ r.2 := by
  induction l with
  | nil => intro r hr; cases hr
  | cons a l ih =>
    intro r hr
    rcases List.mem_cons.1 hr with rfl | hr
    · exact h.1
    · exact ih h.2.2 r hr
/-- An interval all of whose numbers are there lies in one of the list's. -/
theorem canon_within {l : List R} (h : Canon l) (lo hi : Int) (hlh : lo ≤ hi) (hall : ∀ n, lo ≤ n → n ≤ hi → mem l n) : ∃ r, r ∈ l ∧ r.1 ≤ lo ∧ hi ≤ r.2 := by
  induction l with
  | nil => exact absurd (hall lo (Int.le_refl _) hlh) (mem_nil _)
  | cons a l ih =>
    by_cases h1 : lo ≤ a.2
    · have h2 : a.1 ≤ lo := canon_ge h (hall lo (Int.le_refl _) hlh)
      refine ⟨a, List.mem_cons_self, h2, ?_⟩
      by_cases h3 : hi ≤ a.2
      · exact h3
      · exact absurd (hall (a.2 + 1) (by omega) (by omega)) (canon_gap h)
    · obtain ⟨r, hr, h2⟩ := ih h.2.2 (fun n hn1 hn2 => (canon_tail h n).2 ⟨hall n hn1 hn2, by omega⟩)
      exact ⟨r, List.mem_cons_of_mem _ hr, h2⟩

/-! ### The fold of the program -/
def M : Int := 4294967295
def Okk (l : List R) : Prop := ∀ r, r ∈ l → 0 ≤ r.1 ∧ r.1 ≤ M ∧ 0 ≤ r.2 ∧ r.2 ≤ M
def lastR (out : List R) : R := out.getD (out.length - 1) (0, 0)
def step (out : List R) (r : R) : List R :=
  if r.2 < r.1 then out
  else if 0 < out.length ∧ ((lastR out).2 = M ∨ r.1 ≤ (lastR out).2 + 1) then out.set (out.length - 1) ((lastR out).1, max (lastR out).2 r.2)
  else out ++ [r]
theorem snoc_of {out : List R} (h : 0 < out.length) : ∃ init, out = init ++ [lastR out] := by
  refine ⟨out.take (out.length - 1), ?_⟩
  have e : out.drop (out.length - 1) = [lastR out] := by
    rw [List.drop_eq_getElem_cons (by omega), List.drop_of_length_le (by omega)]
    simp [lastR, List.getD_eq_getElem?_getD, List.getElem?_eq_getElem (show out.length - 1 < out.length by omega)]
  rw [← e]
  exact (List.take_append_drop _ _).symm
theorem set_last (init : List R) (a b : R) : (init ++ [a]).set ((init ++ [a]).length - 1) b = init ++ [b] := by
  rw [List.length_append, List.length_singleton, Nat.add_sub_cancel, List.set_append_right _ _ (Nat.le_refl _), Nat.sub_self]
  rfl
theorem step_inv {out : List R} {r : R} (hc : Canon out) (hle : ∀ s, s ∈ out → s.1 ≤ r.1) (hok : Okk out) (hr : 0 ≤ r.1 ∧ r.1 ≤ M ∧ 0 ≤ r.2 ∧ r.2 ≤ M) :
    Canon (step out r) ∧ (∀ n, mem (step out r) n ↔ mem out n ∨ (r.1 ≤ n ∧ n ≤ r.2)) ∧ (∀ s, s ∈ step out r → s.1 ≤ r.1) ∧ Okk (step out r) := by
  unfold step
  by_cases h1 : r.2 < r.1
  · rw [if_pos h1]
    exact ⟨hc, fun n => ⟨.inl, fun h => h.elim id (fun h => by omega)⟩, hle, hok⟩
  rw [if_neg h1]
  by_cases h2 : 0 < out.length ∧ ((lastR out).2 = M ∨ r.1 ≤ (lastR out).2 + 1)
  · rw [if_pos h2]
    obtain ⟨init, he⟩ := snoc_of h2.1
    generalize lastR out = z at *
    subst he
    rw [set_last]
    have hz := hle z (by simp)
    have hzo := hok z (by simp)
    have hc2 := (canon_snoc _ _).1 hc
    refine ⟨(canon_snoc _ _).2 ⟨hc2.1, ?_, hc2.2.2⟩, fun n => ?_, fun s hs => ?_, fun s hs => ?_⟩
    · have := hc2.2.1
      show z.1 ≤ max z.2 r.2
      omega
    · rw [mem_append, mem_append, or_assoc]
      refine or_congr Iff.rfl ?_
      rw [mem_cons, mem_cons]
      have e : ¬ mem [] n := mem_nil n
      simp only [e, or_false]
      have := hc2.2.1
      constructor
      · intro h
        have h3 : z.1 ≤ n := h.1
        have h4 : n ≤ max z.2 r.2 := h.2
        rcases h2.2 with h5 | h5 <;> omega
      · intro h
        show z.1 ≤ n ∧ n ≤ max z.2 r.2
        omega
    · rcases List.mem_append.1 hs with hs | hs
      · exact hle s (List.mem_append_left _ hs)
      · simp at hs
        subst hs
        exact hz
    · rcases List.mem_append.1 hs with hs | hs
      · exact hok s (List.mem_append_left _ hs)
      · simp at hs
        subst hs
        show 0 ≤ z.1 ∧ z.1 ≤ M ∧ 0 ≤ max z.2 r.2 ∧ max z.2 r.2 ≤ M
        omega
  · rw [if_neg h2]
    refine ⟨(canon_snoc _ _).2 ⟨hc, by omega, fun s hs => ?_⟩, fun n => ?_, fun s hs => ?_, fun s hs => ?_⟩
    · have hpos : 0 < out.length := List.length_pos_of_mem hs
      obtain ⟨init, he⟩ := snoc_of hpos
      have h3 : (lastR out).2 + 1 < r.1 := by
        have : ¬ ((lastR out).2 = M ∨ r.1 ≤ (lastR out).2 + 1) := fun h => h2 ⟨hpos, h⟩
        omega
      generalize lastR out = z at *
      subst he
      have hc2 := (canon_snoc _ _).1 hc
      rcases List.mem_append.1 hs with hs | hs
      · have := hc2.2.2 s hs
        have := hc2.2.1
        omega
      · simp at hs
        subst hs
        exact h3
    · rw [mem_append, mem_cons]
      have e : ¬ mem [] n := mem_nil n
      simp only [e, or_false]
    · rcases List.mem_append.1 hs with hs | hs
      · exact hle s hs
      · simp at hs
        subst hs
        exact Int.le_refl _
    · rcases List.mem_append.1 hs with hs | hs
      · exact hok s hs
      · simp at hs
        subst hs
        exact hr
def Rising : List R → Prop := List.Pairwise (fun a b => a.1 ≤ b.1)
theorem fold_inv : ∀ (l out : List R), Canon out → Okk out → Okk l → Rising l → (∀ s r, s ∈ out → r ∈ l → s.1 ≤ r.1) →
    Canon (l.foldl step out) ∧ (∀ n, mem (l.foldl step out) n ↔ mem out n ∨ mem l n) ∧ Okk (l.foldl step out)
  | [], out, hc, ho, _, _, _ => ⟨hc, fun n => ⟨.inl, fun h => h.elim id (fun h => absurd h (mem_nil n))⟩, ho⟩
  | r :: l, out, hc, ho, hl, hs, hle => by
    obtain ⟨h1, h2, h3, h4⟩ := step_inv hc (fun s h => hle s r h List.mem_cons_self) ho (hl r List.mem_cons_self)
    have hs2 := List.pairwise_cons.1 hs
    obtain ⟨k1, k2, k3⟩ := fold_inv l (step out r) h1 h4 (fun s h => hl s (List.mem_cons_of_mem _ h)) hs2.2 (fun s t h ht => Int.le_trans (h3 s h) (hs2.1 t ht))
    refine ⟨k1, fun n => ?_, k3⟩
    rw [List.foldl_cons, k2 n, h2 n, mem_cons, or_assoc]
def le1 (a b : R) : Bool := decide (a.1 ≤ b.1)
def join (l : List R) : List R := (l.mergeSort le1).foldl step []
theorem fold_canon {l : List R} (hl : Okk l) (hs : Rising l) : Canon (l.foldl step []) ∧ (∀ n, mem (l.foldl step []) n ↔ mem l n) ∧ Okk (l.foldl step []) := by
  obtain ⟨h1, h2, h3⟩ := fold_inv l [] trivial (fun r h => by cases h) hl hs (fun s r h => by cases h)
  exact ⟨h1, fun n => by rw [h2 n]; exact ⟨fun h => h.elim (fun h => absurd h (mem_nil n)) id, .inr⟩, h3⟩
theorem rising_sort (l : List R) : Rising (l.mergeSort le1) := by
  have := List.pairwise_mergeSort (le := le1) (fun a b c h1 h2 => by simp [le1] at *; omega) (fun a b => by simp [le1]; omega) l
  exact this.imp (fun h => by simpa [le1] using h)
theorem okk_perm {a b : List R} (h : a.Perm b) (ha : Okk a) : Okk b := fun r hr => ha r (h.mem_iff.2 hr)
theorem join_canon {l : List R} (hl : Okk l) : Canon (join l) ∧ (∀ n, mem (join l) n ↔ mem l n) ∧ Okk (join l) := by
  have hp := List.mergeSort_perm l le1
  obtain ⟨h1, h2, h3⟩ := fold_canon (okk_perm hp.symm hl) (rising_sort l)
  exact ⟨h1, fun n => by rw [show join l = (l.mergeSort le1).foldl step [] from rfl, h2 n]; exact mem_perm hp n, h3⟩
/-- Whichever way it is sorted. -/
theorem join_any {l d : List R} (hl : Okk l) (hp : d.Perm l) (hs : Rising d) : d.foldl step [] = join l := by
  obtain ⟨h1, h2, _⟩ := fold_canon (okk_perm hp.symm hl) hs
  obtain ⟨k1, k2, _⟩ := join_canon hl
  exact canon_unique _ _ h1 k1 (fun n => by rw [h2 n, k2 n]; exact mem_perm hp n)
theorem join_of {l j : List R} (hl : Okk l) (hj : Canon j) (hm : ∀ n, mem j n ↔ mem l n) : j = join l := by
  obtain ⟨k1, k2, _⟩ := join_canon hl
  exact canon_unique _ _ hj k1 (fun n => by rw [hm n, k2 n])
theorem step_length (out : List R) (r : R) : (step out r).length ≤ out.length + 1 := by
  unfold step
  split
  · omega
  · split
    · rw [List.length_set]; omega
    · simp
theorem fold_length : ∀ (l out : List R), (l.foldl step out).length ≤ out.length + l.length
  | [], out => by simp
  | r :: l, out => by
    have h1 := fold_length l (step out r)
    have h2 := step_length out r
    simp only [List.foldl_cons, List.length_cons]
    omega
theorem join_length (l : List R) : (join l).length ≤ l.length := by
  have := fold_length (l.mergeSort le1) []
  rw [List.length_mergeSort] at this
  simpa [join] using this

/-! ### How many -/
def cnt (p : Nat → Bool) : Nat → Nat
  | 0 => 0
  | n + 1 => cnt p n + (if p n = true then 1 else 0)
theorem cnt_mono {p q : Nat → Bool} (h : ∀ n, p n = true → q n = true) (N : Nat) : cnt p N ≤ cnt q N := by
  induction N with
  | zero => exact Nat.le_refl _
  | succ n ih =>
    simp only [cnt]
    by_cases hp : p n = true
    · rw [if_pos hp, if_pos (h n hp)]; omega
    · rw [if_neg hp]; omega
theorem cnt_or {p q : Nat → Bool} (N : Nat) : cnt (fun n => p n || q n) N ≤ cnt p N + cnt q N := by
  induction N with
  | zero => exact Nat.le_refl _
  | succ n ih =>
    simp only [cnt]
    by_cases hp : p n = true <;> by_cases hq : q n = true <;> simp [hp, hq] <;> omega
theorem cnt_disj {p q : Nat → Bool} (h : ∀ n, p n = true → q n = true → False) (N : Nat) : cnt (fun n => p n || q n) N = cnt p N + cnt q N := by
  induction N with
  | zero => rfl
  | succ n ih =>
    simp only [cnt]
    by_cases hp : p n = true <;> by_cases hq : q n = true
    · exact (h n hp hq).elim
    · simp [hp, hq]; omega
    · simp [hp, hq]; omega
    · simp [hp, hq]; omega
theorem cnt_none (p : Nat → Bool) (h : ∀ n, p n = false) (N : Nat) : cnt p N = 0 := by
  induction N with
  | zero => rfl
  | succ n ih => simp [cnt, ih, h n]
def inB (r : R) (n : Nat) : Bool := decide (r.1 ≤ (n : Int) ∧ (n : Int) ≤ r.2)
theorem cnt_itv (r : R) (h0 : 0 ≤ r.1) (h : r.1 ≤ r.2) (N : Nat) : (cnt (inB r) N : Int) = if (N : Int) ≤ r.1 then 0 else if (N : Int) ≤ r.2 then (N : Int) - r.1 else r.2 - r.1 + 1 := by
  induction N with
  | zero => simp [cnt, h0]
  | succ n ih =>
    simp only [cnt]
    by_cases hp : inB r n = true
    · have hp2 : r.1 ≤ (n : Int) ∧ (n : Int) ≤ r.2 := of_decide_eq_true hp
      rw [if_pos hp]
      by_cases h1 : (n : Int) ≤ r.1 <;> by_cases h2 : (n : Int) ≤ r.2 <;> by_cases h3 : ((n + 1 : Nat) : Int) ≤ r.1 <;> by_cases h4 : ((n + 1 : Nat) : Int) ≤ r.2 <;> simp only [h1, h2, if_true, if_false] at ih <;> simp only [h3, h4, if_true, if_false] <;> omega
    · have hp2 : ¬ (r.1 ≤ (n : Int) ∧ (n : Int) ≤ r.2) := fun hh => hp (decide_eq_true hh)
      rw [if_neg hp]
      by_cases h1 : (n : Int) ≤ r.1 <;> by_cases h2 : (n : Int) ≤ r.2 <;> by_cases h3 : ((n + 1 : Nat) : Int) ≤ r.1 <;> by_cases h4 : ((n + 1 : Nat) : Int) ≤ r.2 <;> simp only [h1, h2, if_true, if_false] at ih <;> simp only [h3, h4, if_true, if_false] <;> omega
def memB (l : List R) (n : Nat) : Bool := l.any (fun r => inB r n)
theorem memB_iff (l : List R) (n : Nat) : memB l n = true ↔ mem l (n : Int) := by
  simp only [memB, List.any_eq_true, inB, decide_eq_true_eq, mem]
def many : List R → Int
  | [] => 0
  | r :: l => r.2 - r.1 + 1 + many l
theorem many_cnt {l : List R} (h : Canon l) (hok : Okk l) (N : Nat) (hN : M < (N : Int)) : many l = (cnt (memB l) N : Int) := by
  induction l with
  | nil => rw [cnt_none (memB []) (fun n => rfl)]; rfl
  | cons r l ih =>
    have hr := hok r List.mem_cons_self
    have e : memB (r :: l) = fun n => inB r n || memB l n := by funext n; simp [memB]
    rw [many, ih h.2.2 (fun s hs => hok s (List.mem_cons_of_mem _ hs)), e, cnt_disj, Int.natCast_add, cnt_itv r hr.1 h.1, if_neg (by have := h.1; omega), if_neg (by omega)]
    intro n h1 h2
    have h3 : r.1 ≤ (n : Int) ∧ (n : Int) ≤ r.2 := of_decide_eq_true h1
    obtain ⟨s, hs, h4⟩ := (memB_iff l n).1 h2
    have := h.2.1 s hs
    omega
theorem many_mono {a b : List R} (ha : Canon a) (hb : Canon b) (oa : Okk a) (ob : Okk b) (h : ∀ n, mem a n → mem b n) : many a ≤ many b := by
  rw [many_cnt ha oa 4294967296 (by unfold M; omega), many_cnt hb ob 4294967296 (by unfold M; omega)]
  have := cnt_mono (p := memB a) (q := memB b) (fun n hn => (memB_iff b n).2 (h _ ((memB_iff a n).1 hn))) 4294967296
  exact Int.ofNat_le.2 this
theorem many_or {a b c : List R} (ha : Canon a) (hb : Canon b) (hc : Canon c) (oa : Okk a) (ob : Okk b) (oc : Okk c) (h : ∀ n, mem c n → mem a n ∨ mem b n) : many c ≤ many a + many b := by
  rw [many_cnt ha oa 4294967296 (by unfold M; omega), many_cnt hb ob 4294967296 (by unfold M; omega), many_cnt hc oc 4294967296 (by unfold M; omega)]
  have h1 := cnt_mono (p := memB c) (q := fun n => memB a n || memB b n) (fun n hn => by
    have := h _ ((memB_iff c n).1 hn)
    simp only [Bool.or_eq_true]
    exact this.imp (memB_iff a n).2 (memB_iff b n).2) 4294967296
  have h2 := cnt_or (p := memB a) (q := memB b) 4294967296
  have h3 := Nat.le_trans h1 h2
  exact_mod_cast h3
theorem many_nonneg {a : List R} (ha : Canon a) (oa : Okk a) : 0 ≤ many a ∧ many a ≤ 4294967296 := by
  rw [many_cnt ha oa 4294967296 (by unfold M; omega)]
  have : ∀ N, cnt (memB a) N ≤ N := by
    intro N
    induction N with
    | zero => exact Nat.le_refl _
    | succ n ih => simp only [cnt]; split <;> omega
  have := this 4294967296
  omega

end Go.Proofs.Ythedfnhbhlobiaa.Itv
