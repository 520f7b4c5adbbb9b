/- The reference's Lines and Bare come to what the program's come to. -/
import Derived.Test.YtbbikibgfpokpaaDoorPRadx3
set_option linter.unusedVariables false
namespace Go.Proofs.YtbbikibgfpokpaaDoor.LinQ
open Go.RowKit Go.Proofs.YtbbikibgfpokpaaDoor.PRad Go.Proofs.YtbbikibgfpokpaaDoorW.PrintWords Go.Proofs.YtbbikibgfpokpaaDoorW.PrintLast Go.Proofs.YtbbikibgfpokpaaDoorW.PrintMore

theorem wsucc (k : Nat) (h : k ≤ 1000000000000) : wrap64 ((k : Int) + 1) = ((k + 1 : Nat) : Int) := by unfold wrap64; omega
theorem wpred (k : Nat) (h : k ≤ 1000000000000) (h0 : 0 < k) : wrap64 ((k : Int) - 1) = ((k - 1 : Nat) : Int) := by unfold wrap64; omega
theorem size_len (s : ByteArray) : s.data.toList.length = s.size := rfl
theorem bt_list (s : ByteArray) (i : Nat) (h : i < s.size) : bt s (i : Int) = ((s.data.toList[i]'(by rw [size_len]; exact h)).toNat : Int) := by
  have := bt_at s (i : Int) (by simpa using h)
  rw [← this]
  simp [ByteArray.getElem_eq_getElem_data]
theorem byte_iff (b c : UInt8) (n : Nat) (hc : c.toNat = n) : ((b.toNat : Int) = (n : Int)) ↔ b = c := by
  constructor
  · intro h
    exact UInt8.toNat_inj.1 (by omega)
  · rintro rfl
    omega
def cut (t : List UInt8) (a b : Nat) : List UInt8 := (t.drop a).take (b - a)
theorem extract_cut (s : ByteArray) (a b : Nat) : (s.extract a b).data.toList = cut s.data.toList a b := by
  rw [Lib.extract_data]
  rfl
theorem cut_snoc {t : List UInt8} {a i : Nat} (h : a ≤ i) (hi : i < t.length) : cut t a (i + 1) = cut t a i ++ [t[i]] := by
  unfold cut
  have e : i + 1 - a = (i - a) + 1 := by omega
  rw [e, List.take_succ_eq_append_getElem (by simp; omega)]
  congr 2
  simp [List.getElem_drop]
  congr 1
  omega
theorem cut_all (t : List UInt8) (a : Nat) : cut t a t.length = t.drop a := List.take_of_length_le (by simp)
theorem drop_cut {t : List UInt8} {a i : Nat} (h : a ≤ i) (hi : i < t.length) : t.drop a = cut t a i ++ t[i] :: t.drop (i + 1) := by
  unfold cut
  rw [← List.drop_eq_getElem_cons hi]
  have : t.drop i = (t.drop a).drop (i - a) := by rw [List.drop_drop]; congr 1; omega
  rw [this, List.take_append_drop]
theorem trim_yes {t : List UInt8} {a i : Nat} (h : a < i) (hi : i ≤ t.length) (hb : t[i - 1] = 13) : Lin.trimCR (cut t a i) = cut t a (i - 1) := by
  obtain ⟨j, rfl⟩ : ∃ j, i = j + 1 := ⟨i - 1, by omega⟩
  simp only [Nat.add_sub_cancel] at hb ⊢
  rw [cut_snoc (by omega) (by omega), hb]
  unfold Lin.trimCR
  simp
theorem trim_no {t : List UInt8} {a i : Nat} (h : a < i) (hi : i ≤ t.length) (hb : t[i - 1] ≠ 13) : Lin.trimCR (cut t a i) = cut t a i := by
  obtain ⟨j, rfl⟩ : ∃ j, i = j + 1 := ⟨i - 1, by omega⟩
  simp only [Nat.add_sub_cancel] at hb
  rw [cut_snoc (by omega) (by omega)]
  unfold Lin.trimCR
  simp [hb]
theorem trim_none (t : List UInt8) (a : Nat) : Lin.trimCR (cut t a a) = [] := by
  unfold cut Lin.trimCR
  simp
theorem cut_length {t : List UInt8} {a i : Nat} (hi : i ≤ t.length) : (cut t a i).length = i - a := by unfold cut; simp; omega


theorem j2_go (s : ByteArray) (hs : s.size ≤ 1000000000) (out : List ByteArray) (hout : out.length ≤ 1000000001) (a i : Nat) (cr : Bool) (h1 : a ≤ i) (h2 : i ≤ s.size) (hc : cr = true → a < i) (k : Nat) :
    lanyardref02_Lines.j2 (k + 1) s out a i i cr = if i < s.size ∨ a < i - cr.toNat then lanyardref02_Lines.l0 k s (out ++ [s.extract a (i - cr.toNat)]) ((i + 1 : Nat) : Int) ((i + 1 : Nat) : Int) else lanyardref02_Lines.l0 k s out ((i + 1 : Nat) : Int) ((i + 1 : Nat) : Int) := by
  rw [lanyardref02_Lines.j2, wsucc i (by omega)]
  cases cr with
  | true =>
    have ha := hc rfl
    rw [if_pos rfl, wpred i (by omega) (by omega)]
    simp only [Bool.toNat_true, Int.toNat_natCast]
    by_cases hi : i < s.size
    · rw [if_pos (by omega), if_pos (by omega), if_pos (by omega), if_pos (by omega), if_pos (by omega), if_pos (.inl hi)]
    · rw [if_neg (by omega)]
      by_cases hl : a < i - 1
      · rw [if_pos (by omega), if_pos (by omega), if_pos (by omega), if_pos (by omega), if_pos (by omega), if_pos (.inr hl)]
      · rw [if_neg (by omega), if_neg (by omega)]
  | false =>
    rw [if_neg (by simp)]
    simp only [Bool.toNat_false, Nat.sub_zero, Int.toNat_natCast]
    by_cases hi : i < s.size
    · rw [if_pos (by omega), if_pos (by omega), if_pos (by omega), if_pos (by omega), if_pos (by omega), if_pos (.inl hi)]
    · rw [if_neg (by omega)]
      by_cases hl : a < i
      · rw [if_pos (by omega), if_pos (by omega), if_pos (by omega), if_pos (by omega), if_pos (by omega), if_pos (.inr hl)]
      · rw [if_neg (by omega), if_neg (by omega)]

/-- Whether a carriage return stands ahead of i. -/
def crB (s : ByteArray) (a i : Nat) : Bool := decide (a < i) && (bt s ((i - 1 : Nat) : Int) == 13)
theorem j1_go (s : ByteArray) (hs : s.size ≤ 1000000000) (out : List ByteArray) (a i : Nat) (h1 : a ≤ i) (h2 : i ≤ s.size) (k : Nat) :
    lanyardref02_Lines.j1 (k + 1) s out a i false = lanyardref02_Lines.j2 k s out a i i (crB s a i) := by
  rw [lanyardref02_Lines.j1, if_neg (by simp)]
  unfold crB
  by_cases h : a < i
  · rw [if_pos (by omega), wpred i (by omega) (by omega), if_pos (by omega), if_pos (by omega), decide_eq_true h, Bool.true_and]
  · rw [if_neg (by omega), decide_eq_false h, Bool.false_and]
theorem crB_trim (s : ByteArray) (a i : Nat) (h1 : a ≤ i) (h2 : i ≤ s.size) : Lin.trimCR (cut s.data.toList a i) = cut s.data.toList a (i - (crB s a i).toNat) := by
  have hl := size_len s
  unfold crB
  by_cases h : a < i
  · rw [decide_eq_true h, Bool.true_and, bt_list s (i - 1) (by omega)]
    by_cases hb : s.data.toList[i - 1]'(by omega) = 13
    · rw [hb]
      exact trim_yes h (by omega) hb
    · have e : (((s.data.toList[i - 1]'(by omega)).toNat : Int) == 13) = false := by
        rw [beq_eq_false_iff_ne]
        exact fun q => hb ((byte_iff _ 13 13 rfl).1 q)
      rw [e]
      exact trim_no h (by omega) hb
  · rw [decide_eq_false h, Bool.false_and]
    obtain rfl : a = i := by omega
    rw [trim_none]
    unfold cut
    simp
def LL (t : List UInt8) (a : Nat) : List (List UInt8) := if a ≤ t.length then Lin.linesS (t.drop a) else []

theorem lines_l0 (s : ByteArray) (hs : s.size ≤ 1000000000) : ∀ (n i a : Nat) (out : List ByteArray), i + n = s.size + 1 → out.length ≤ a → a ≤ i → (∀ b, b ∈ cut s.data.toList a i → b ≠ 10) → (i = s.size + 1 → a = i) →
    ∃ k R, lanyardref02_Lines.l0 k s out a i = some (out ++ R) ∧ R.map (·.data.toList) = LL s.data.toList a
  | 0, i, a, out, h, ho, h1, hno, he => by
    refine ⟨1, [], ?_, ?_⟩
    · rw [lanyardref02_Lines.l0, if_neg (by omega), List.append_nil]
    · unfold LL
      rw [size_len, if_neg (by have := he (by omega); omega)]
      rfl
  | n + 1, i, a, out, h, ho, h1, hno, he => by
    have hl := size_len s
    have hi : i ≤ s.size := by omega
    have hcr := crB_trim s a i h1 hi
    have hcr1 : crB s a i = true → a < i := fun q => by unfold crB at q; rw [Bool.and_eq_true] at q; exact of_decide_eq_true q.1
    have htn : (crB s a i).toNat ≤ 1 := by cases crB s a i <;> simp
    by_cases hlt : i < s.size
    · by_cases hb : s.data.toList[i]'(by omega) = 10
      · obtain ⟨k, R, hk, hR⟩ := lines_l0 s hs n (i + 1) (i + 1) (out ++ [s.extract a (i - (crB s a i).toNat)]) (by omega) (by rw [List.length_append, List.length_singleton]; omega) (Nat.le_refl _) (fun b hb => by unfold cut at hb; simp at hb) (fun _ => rfl)
        refine ⟨k + 3, s.extract a (i - (crB s a i).toNat) :: R, ?_, ?_⟩
        · rw [lanyardref02_Lines.l0, if_pos (by omega), if_pos (by omega), if_pos (by omega), bt_list s i hlt, hb]
          rw [show (((10 : UInt8).toNat : Int) != 10) = false from rfl, j1_go s hs out a i h1 hi, j2_go s hs out (by omega) a i _ h1 hi hcr1, if_pos (.inl hlt), hk, List.append_assoc]
          rfl
        · rw [List.map_cons, hR, extract_cut, ← hcr]
          unfold LL
          rw [if_pos (by omega), if_pos (by omega), drop_cut h1 (show i < s.data.toList.length by omega), hb, Lin.lines_cut _ _ hno]
      · obtain ⟨k, R, hk, hR⟩ := lines_l0 s hs n (i + 1) a out (by omega) ho (by omega) (fun b hb' => by
          rw [cut_snoc h1 (show i < s.data.toList.length by omega)] at hb'
          rcases List.mem_append.1 hb' with hb' | hb'
          · exact hno b hb'
          · rw [List.mem_singleton.1 hb']; exact hb) (fun e => by omega)
        refine ⟨k + 2, R, ?_, hR⟩
        have e : (((s.data.toList[i]'(by omega)).toNat : Int) != 10) = true := by
          rw [bne_iff_ne]
          exact fun q => hb ((byte_iff _ 10 10 rfl).1 q)
        rw [lanyardref02_Lines.l0, if_pos (by omega), if_pos (by omega), if_pos (by omega), bt_list s i hlt, e, lanyardref02_Lines.j1, if_pos rfl, wsucc i (by omega)]
        exact hk
    · have hie : i = s.size := by omega
      have ht : s.data.toList.drop a = cut s.data.toList a i := by rw [← cut_all, hl, hie]
      have hLL : LL s.data.toList a = if Lin.trimCR (cut s.data.toList a i) = [] then [] else [Lin.trimCR (cut s.data.toList a i)] := by
        unfold LL
        rw [if_pos (by omega), ht, Lin.lines_none _ hno]
      have hcl := cut_length (t := s.data.toList) (a := a) (i := i - (crB s a i).toNat) (by omega)
      have hstep : ∀ k, lanyardref02_Lines.l0 (k + 3) s out a i = if a < i - (crB s a i).toNat then lanyardref02_Lines.l0 k s (out ++ [s.extract a (i - (crB s a i).toNat)]) ((i + 1 : Nat) : Int) ((i + 1 : Nat) : Int) else lanyardref02_Lines.l0 k s out ((i + 1 : Nat) : Int) ((i + 1 : Nat) : Int) := by
        intro k
        rw [lanyardref02_Lines.l0, if_pos (by omega), if_neg (by omega), j1_go s hs out a i h1 hi, j2_go s hs out (by omega) a i _ h1 hi hcr1]
        simp only [hlt, false_or]
      by_cases hne : a < i - (crB s a i).toNat
      · refine ⟨4, [s.extract a (i - (crB s a i).toNat)], ?_, ?_⟩
        · rw [hstep, if_pos hne, lanyardref02_Lines.l0, if_neg (by omega)]
        · rw [hLL, hcr, if_neg (fun q => by rw [q] at hcl; simp at hcl; omega), List.map_cons, extract_cut]
          rfl
      · refine ⟨4, [], ?_, ?_⟩
        · rw [hstep, if_neg hne, lanyardref02_Lines.l0, if_neg (by omega), List.append_nil]
        · rw [hLL, hcr, if_pos (List.length_eq_zero_iff.1 (by omega))]
          rfl

theorem map_data_inj : ∀ {a b : List ByteArray}, a.map (·.data.toList) = b.map (·.data.toList) → a = b
  | [], [], _ => rfl
  | [], _ :: _, h => by simp at h
  | _ :: _, [], h => by simp at h
  | x :: a, y :: b, h => by
    simp only [List.map_cons, List.cons.injEq] at h
    rw [map_data_inj h.2, WideShapes.bytes_inj h.1]
theorem reflines_f (s : ByteArray) (hs : s.size ≤ 1000000000) : ∃ k, lanyardref02_Lines.f k s = some (Spl.linesR s) := by
  obtain ⟨k, R, hk, hR⟩ := lines_l0 s hs (s.size + 1) 0 0 [] (by omega) (by simp) (Nat.le_refl _) (fun b hb => by unfold cut at hb; simp at hb) (fun e => by omega)
  refine ⟨k, ?_⟩
  have : Spl.linesR s = R := map_data_inj (by rw [Spl.linesR_data, hR]; unfold LL; rw [if_pos (Nat.zero_le _), List.drop_zero])
  rw [this]
  rw [List.nil_append] at hk
  exact hk

theorem refbare_l0 (s : ByteArray) (hs : s.size ≤ 1000000000) (j : Nat) : ∀ (n i : Nat), i + n = s.size → lanyardref02_Bare.l0 (n + j + 1) s (Rad.bareN s i) i = some (strOfNums (Rad.bareN s s.size))
  | 0, i, h => by rw [lanyardref02_Bare.l0, if_neg (by omega), show i = s.size by omega]
  | n + 1, i, h => by
    have ih := refbare_l0 s hs j n (i + 1) (by omega)
    have hl := Rad.bareN_length s i
    rw [lanyardref02_Bare.l0, if_pos (by omega), if_pos (by omega), wsucc i (by omega), show n + 1 + j = n + j + 1 by omega]
    by_cases h9 : bt s (i : Int) = 9
    · rw [if_pos h9]; rw [Rad.bareN_yes (by simp [Rad.blank, h9])] at ih; exact ih
    · rw [if_neg h9]
      by_cases h10 : bt s (i : Int) = 10
      · rw [if_pos h10]; rw [Rad.bareN_yes (by simp [Rad.blank, h10])] at ih; exact ih
      · rw [if_neg h10]
        by_cases h13 : bt s (i : Int) = 13
        · rw [if_pos h13]; rw [Rad.bareN_yes (by simp [Rad.blank, h13])] at ih; exact ih
        · rw [if_neg h13]
          by_cases h32 : bt s (i : Int) = 32
          · rw [if_pos h32]; rw [Rad.bareN_yes (by simp [Rad.blank, h32])] at ih; exact ih
          · rw [if_neg h32, if_pos (by omega)]; rw [Rad.bareN_no (by simp [Rad.blank, h9, h10, h13, h32])] at ih; exact ih

theorem same_l0 (a : List ByteArray) (hm : a.length ≤ 1000000000) (j : Nat) : ∀ (n i : Nat), i + n = a.length → lanyardref02_Same.l0 (n + j + 1) a a i = some true
  | 0, i, h => by rw [lanyardref02_Same.l0, if_neg (by omega)]
  | n + 1, i, h => by
    rw [lanyardref02_Same.l0, if_pos (by omega), if_pos (by omega), if_pos (by omega), if_pos rfl, wsucc i (by omega), show n + 1 + j = n + j + 1 by omega]
    exact same_l0 a hm j n (i + 1) (by omega)
theorem same_f (a : List ByteArray) (hm : a.length ≤ 1000000000) (k : Nat) (hk : a.length < k) : lanyardref02_Same.f k a a = some true := by
  obtain ⟨j, rfl⟩ : ∃ j, k = a.length + j + 1 := ⟨k - a.length - 1, by omega⟩
  unfold lanyardref02_Same.f
  rw [if_pos rfl]
  exact same_l0 a hm j a.length 0 (by omega)
theorem linesR_length (s : ByteArray) : (Spl.linesR s).length ≤ s.size + 1 := by
  have := Spl.pieces_le s
  unfold Spl.linesR
  split
  · simp; omega
  · simp; omega
theorem le_any {α : Type} {f : Nat → Option α} (h : ∀ k, LeO (f k) (f (k + 1))) {k n : Nat} {r : α} (hf : f k = some r) (hk : k ≤ n) : f n = some r := by
  induction hk with
  | refl => exact hf
  | step _ ih => exact h _ _ ih

theorem lines_pure : lanyardlaw02_RadixLines.Pure := by
  intro a0 _
  by_cases h : a0.size ≤ 2000
  · obtain ⟨k1, h1⟩ := reflines_f a0 (by omega)
    have hll := linesR_length a0
    refine ⟨k1 + 3000, ?_⟩
    have hb : lanyardref02_Bare.f (k1 + 3000) a0 = some (strOfNums (Rad.bareN a0 a0.size)) := by
      have := refbare_l0 a0 (by omega) (k1 + 3000 - a0.size - 1) a0.size 0 (by omega)
      rw [show a0.size + (k1 + 3000 - a0.size - 1) + 1 = k1 + 3000 by omega] at this
      exact this
    unfold lanyardlaw02_RadixLines.f lanyardlaw02_awake.f radix_Lines.f radix_Bare.f
    rw [Option.bind_some, if_neg (by omega), if_pos (by omega), Option.bind_some, le_any (f := fun k => lanyardref02_Lines.f k a0) (lanyardref02_Lines.mono a0) h1 (by omega : k1 ≤ k1 + 3000), Option.bind_some, same_f _ (by omega) _ (by omega), Option.bind_some, if_pos rfl, if_pos rfl, if_pos (by omega), Option.bind_some, hb, Option.bind_some]
    simp
  · refine ⟨0, ?_⟩
    unfold lanyardlaw02_RadixLines.f lanyardlaw02_awake.f
    rw [Option.bind_some, if_pos (by omega)]

end Go.Proofs.YtbbikibgfpokpaaDoor.LinQ
