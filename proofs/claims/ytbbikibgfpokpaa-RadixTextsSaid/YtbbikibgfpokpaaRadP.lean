/- The plain law of the texts of 64 signs: what is encoded is decoded as it was; what is decoded has just that text. -/
import Derived.Test.YtbbikibgfpokpaaRad3
set_option linter.unusedVariables false
namespace Go.Proofs.Ytbbikibgfpokpaa.Rad
open Go.RowKit Go.Proofs.YtbbikibgfpokpaaW.PrintWords Go.Proofs.YtbbikibgfpokpaaW.PrintLast Go.Proofs.YtbbikibgfpokpaaW.PrintMore

def Byt (l : List Int) : Prop := ∀ x ∈ l, 0 ≤ x ∧ x < 256
theorem bytesOf_byt (s : ByteArray) : Byt (bytesOf s) := by
  intro x hx
  obtain ⟨b, _, rfl⟩ := List.mem_map.1 hx
  have := b.toNat_lt
  omega
theorem strOfNums_bytesOf (s : ByteArray) : strOfNums (bytesOf s) = s := by
  apply ByteArray.ext
  apply Array.ext'
  simp [strOfNums, bytesOf, List.map_map, Function.comp_def]
theorem bytesOf_strOfNums (l : List Int) (h : Byt l) : bytesOf (strOfNums l) = l := by
  simp only [strOfNums, bytesOf, List.map_map]
  have : ∀ x ∈ l, ((fun b : UInt8 => (b.toNat : Int)) ∘ fun n : Int => UInt8.ofNat n.toNat) x = x := by
    intro x hx
    have h1 := h x hx
    simp only [Function.comp]
    rw [UInt8.toNat_ofNat_of_lt' (by simp [UInt8.size]; omega)]
    omega
  rw [List.map_congr_left this, List.map_id']
theorem strOfNums_size (l : List Int) : (strOfNums l).size = l.length := by simp [strOfNums, ByteArray.size]
theorem bt_str (l : List Int) (h : Byt l) (i : Int) : bt (strOfNums l) i = rd l i := by rw [← rd_bytesOf, bytesOf_strOfNums l h]
theorem str_inj {a b : List Int} (ha : Byt a) (hb : Byt b) (h : strOfNums a = strOfNums b) : a = b := by rw [← bytesOf_strOfNums a ha, h, bytesOf_strOfNums b hb]

theorem idx_sg : ∀ n : Fin 64, idx (sg (n.val : Int)) = (n.val : Int) ∧ ¬ sg (n.val : Int) = 61 := by decide +kernel
theorem sg_idx : ∀ c : Fin 256, 0 ≤ idx (c.val : Int) → idx (c.val : Int) < 64 ∧ sg (idx (c.val : Int)) = (c.val : Int) := by decide +kernel
theorem idx_pad : idx 61 = -1 := by decide +kernel
theorem idx_sg' {n : Int} (h : 0 ≤ n) (h1 : n < 64) : idx (sg n) = n ∧ ¬ sg n = 61 := by
  obtain ⟨m, rfl⟩ := Int.eq_ofNat_of_zero_le h
  exact idx_sg ⟨m, by omega⟩
theorem sg_idx' {c : Int} (h : 0 ≤ c) (h1 : c < 256) (h2 : 0 ≤ idx c) : idx c < 64 ∧ sg (idx c) = c := by
  obtain ⟨m, rfl⟩ := Int.eq_ofNat_of_zero_le h
  exact sg_idx ⟨m, by omega⟩ h2

theorem shl_or {b y : Int} (h : 0 ≤ b) (h1 : b < 16777216) (hy : 0 ≤ y) (hy1 : y < 64) : Go.bits .or .i64 (wrap64 (b * 64)) y = b * 64 + y := by
  have e : wrap64 (b * 64) = b * 64 := by unfold wrap64; omega
  rw [e]
  exact bits_join .i64 62 (by decide) (fun n h₀ h₁ => by rw [IntKind.wrap_i64]; omega) 6 _ _ (by omega) (by omega) (by omega) hy (by omega) (by omega)
theorem and_mask16 {b : Int} (h : 0 ≤ b) (h1 : b < 16777216) : Go.bits .and .i64 b 65535 = b % 65536 := bits_mask .i64 62 (by decide) (fun n h₀ h₁ => by rw [IntKind.wrap_i64]; omega) 16 (by decide) b h (by omega)
theorem and_mask8 {b : Int} (h : 0 ≤ b) (h1 : b < 16777216) : Go.bits .and .i64 b 255 = b % 256 := bits_mask .i64 62 (by decide) (fun n h₀ h₁ => by rw [IntKind.wrap_i64]; omega) 8 (by decide) b h (by omega)
theorem and_mask0 {b : Int} (h : 0 ≤ b) (h1 : b < 16777216) : Go.bits .and .i64 b 0 = 0 := by
  have := bits_mask .i64 62 (by decide) (fun n h₀ h₁ => by rw [IntKind.wrap_i64]; omega) 0 (by decide) b h (by omega)
  simpa using this

/-- Four signs' bytes, told by cases. -/
def f4 (c0 c1 c2 c3 : Int) : List Int × Bool :=
  if idx c0 < 0 ∨ idx c1 < 0 then ([], false)
  else if c2 = 61 then (if c3 = 61 then fres ((idx c0 * 64 + idx c1) * 4096) 1 else ([], false))
  else if idx c2 < 0 then ([], false)
  else if c3 = 61 then fres (((idx c0 * 64 + idx c1) * 64 + idx c2) * 64) 2
  else if idx c3 < 0 then ([], false)
  else fres (((idx c0 * 64 + idx c1) * 64 + idx c2) * 64 + idx c3) 3

theorem fst_zero (s : ByteArray) : fst s 0 = some (0, 3) := rfl
theorem bt256 (s : ByteArray) (i : Int) : 0 ≤ bt s i ∧ bt s i < 256 := by have := bt_range s i; omega
theorem idx_lt {c : Int} (h : 0 ≤ c ∧ c < 256) : idx c < 64 := by
  by_cases h2 : 0 ≤ idx c
  · exact (sg_idx' h.1 h.2 h2).1
  · omega
theorem four_f4 (s : ByteArray) : four s = f4 (bt s 0) (bt s 1) (bt s 2) (bt s 3) := by
  have hb0 := bt256 s 0
  have hb1 := bt256 s 1
  have hb2 := bt256 s 2
  have hb3 := bt256 s 3
  have l0 := idx_lt hb0
  have l1 := idx_lt hb1
  have l2 := idx_lt hb2
  have l3 := idx_lt hb3
  have s1 := fst_succ (fst_zero s)
  unfold f4
  by_cases h0 : idx (bt s 0) < 0
  · rw [if_pos (Or.inl h0)]
    refine four_none (j := 1) (by omega) (s1.trans ?_)
    unfold fstep
    rw [if_neg (by omega), if_pos (by exact h0)]
  have n0 : ¬ bt s 0 = 61 := fun h => by rw [h, idx_pad] at h0; omega
  replace s1 : fst s 1 = some (idx (bt s 0), 3) := by
    rw [s1]
    refine (fstep_C n0 (by simpa using h0) (by simp)).trans ?_
    rw [shl_or (by omega) (by omega) (by exact Int.not_lt.1 h0) (by exact l0)]
    simp
  have s2 := fst_succ s1
  by_cases h1 : idx (bt s 1) < 0
  · rw [if_pos (Or.inr h1)]
    refine four_none (j := 2) (by omega) (s2.trans ?_)
    unfold fstep
    rw [if_neg (by omega), if_pos (by exact h1)]
  rw [if_neg (by omega)]
  have n1 : ¬ bt s 1 = 61 := fun h => by rw [h, idx_pad] at h1; omega
  replace s2 : fst s 2 = some (idx (bt s 0) * 64 + idx (bt s 1), 3) := by
    rw [s2]
    refine (fstep_C n1 (Int.not_lt.1 h1) (by simp)).trans ?_
    rw [shl_or (by omega) (by omega) (Int.not_lt.1 h1) l1]
  have s3 := fst_succ s2
  by_cases h2 : bt s 2 = 61
  · rw [if_pos h2]
    replace s3 : fst s 3 = some ((idx (bt s 0) * 64 + idx (bt s 1)) * 64, 1) := by
      rw [s3]
      refine (fstep_A h2 (by omega) (by simp)).trans ?_
      rw [shl_or (by omega) (by omega) (by omega) (by omega)]
      simp
    have s4 := fst_succ s3
    by_cases h3 : bt s 3 = 61
    · rw [if_pos h3]
      refine four_some (s4.trans ((fstep_B h3 (by omega) (by simp)).trans ?_))
      rw [shl_or (by omega) (by omega) (by omega) (by omega)]
      congr 2
      omega
    · rw [if_neg h3]
      refine four_none (j := 4) (by omega) (s4.trans ?_)
      by_cases h4 : idx (bt s 3) < 0
      · exact fstep_N1 h3 h4
      · exact fstep_N2 h3 (Int.not_lt.1 h4) (by simp)
  · rw [if_neg h2]
    by_cases h4 : idx (bt s 2) < 0
    · rw [if_pos h4]
      exact four_none (j := 3) (by omega) (s3.trans (fstep_N1 h2 h4))
    rw [if_neg h4]
    replace s3 : fst s 3 = some ((idx (bt s 0) * 64 + idx (bt s 1)) * 64 + idx (bt s 2), 3) := by
      rw [s3]
      refine (fstep_C h2 (Int.not_lt.1 h4) (by simp)).trans ?_
      rw [shl_or (by omega) (by omega) (Int.not_lt.1 h4) l2]
    have s4 := fst_succ s3
    by_cases h3 : bt s 3 = 61
    · rw [if_pos h3]
      refine four_some (s4.trans ((fstep_A h3 (by omega) (by simp)).trans ?_))
      rw [shl_or (by omega) (by omega) (by omega) (by omega)]
      simp
    · rw [if_neg h3]
      by_cases h5 : idx (bt s 3) < 0
      · rw [if_pos h5]
        exact four_none (j := 4) (by omega) (s4.trans (fstep_N1 h3 h5))
      · rw [if_neg h5]
        refine four_some (s4.trans ((fstep_C h3 (Int.not_lt.1 h5) (by simp)).trans ?_))
        rw [shl_or (by omega) (by omega) (Int.not_lt.1 h5) l3]

theorem enc_append (x y : List Int) (h : x.length % 3 = 0) : enc (x ++ y) = enc x ++ enc y := by
  match x, h with
  | [], _ => simp [enc]
  | a :: b :: c :: r, h =>
    have := enc_append r y (by simp only [List.length_cons] at h; omega)
    simp only [List.cons_append, enc, this, List.append_assoc]
theorem str_append (x y : List Int) : strOfNums (x ++ y) = strOfNums x ++ strOfNums y := by
  apply ByteArray.ext
  apply Array.ext'
  simp [strOfNums]

theorem fres1 {b : Int} (h : 0 ≤ b) (h1 : b < 16777216) : fres b 1 = if b % 65536 = 0 then ([b / 65536 % 256], true) else ([], false) := by
  unfold fres fmask
  rw [if_pos (rfl : (1 : Int) = 1), and_mask16 h h1]
  rfl
theorem fres2 {b : Int} (h : 0 ≤ b) (h1 : b < 16777216) : fres b 2 = if b % 256 = 0 then ([b / 65536 % 256, b / 256 % 256], true) else ([], false) := by
  unfold fres fmask
  rw [if_neg (show ¬ (2 : Int) = 1 by decide), if_pos (rfl : (2 : Int) = 2), and_mask8 h h1]
  rfl
theorem fres3 {b : Int} (h : 0 ≤ b) (h1 : b < 16777216) : fres b 3 = ([b / 65536 % 256, b / 256 % 256, b % 256], true) := by
  unfold fres fmask
  rw [if_neg (show ¬ (3 : Int) = 1 by decide), if_neg (show ¬ (3 : Int) = 2 by decide), and_mask0 h h1, if_pos rfl]
  rfl
theorem qd1 (q : Int) : qd q 1 = [sg (q / 262144 % 64), sg (q / 4096 % 64), 61, 61] := by simp [qd]
theorem qd2 (q : Int) : qd q 2 = [sg (q / 262144 % 64), sg (q / 4096 % 64), sg (q / 64 % 64), 61] := by simp [qd]
theorem qd3 (q : Int) : qd q 3 = [sg (q / 262144 % 64), sg (q / 4096 % 64), sg (q / 64 % 64), sg (q % 64)] := by simp [qd]
theorem f4_of {x y : Int} (hx : 0 ≤ x) (hx1 : x < 64) (hy : 0 ≤ y) (hy1 : y < 64) (c2 c3 : Int) : f4 (sg x) (sg y) c2 c3 =
    if c2 = 61 then (if c3 = 61 then fres ((x * 64 + y) * 4096) 1 else ([], false))
    else if idx c2 < 0 then ([], false)
    else if c3 = 61 then fres (((x * 64 + y) * 64 + idx c2) * 64) 2
    else if idx c3 < 0 then ([], false)
    else fres (((x * 64 + y) * 64 + idx c2) * 64 + idx c3) 3 := by
  unfold f4
  rw [(idx_sg' hx hx1).1, (idx_sg' hy hy1).1, if_neg (by omega)]
/-- The bytes of the text of one to three bytes. -/
theorem four_enc1 (a : Int) (h : 0 ≤ a ∧ a < 256) : four (strOfNums (enc [a])) = ([a], true) := by
  have hr := enc_range [a]
  rw [four_f4, bt_str _ hr, bt_str _ hr, bt_str _ hr, bt_str _ hr, enc, qd1]
  show f4 (sg _) (sg _) 61 61 = _
  rw [f4_of (by omega) (by omega) (by omega) (by omega), if_pos rfl, if_pos rfl, fres1 (by omega) (by omega), if_pos (by omega)]
  congr 2
  omega
theorem four_enc2 (a b : Int) (h : 0 ≤ a ∧ a < 256) (hb : 0 ≤ b ∧ b < 256) : four (strOfNums (enc [a, b])) = ([a, b], true) := by
  have hr := enc_range [a, b]
  rw [four_f4, bt_str _ hr, bt_str _ hr, bt_str _ hr, bt_str _ hr, enc, qd2]
  show f4 (sg _) (sg _) (sg _) 61 = _
  have h2 := idx_sg' (n := (a * 65536 + b * 256) / 64 % 64) (by omega) (by omega)
  rw [f4_of (by omega) (by omega) (by omega) (by omega), if_neg h2.2, h2.1, if_neg (by omega), if_pos rfl, fres2 (by omega) (by omega), if_pos (by omega)]
  congr 2
  · omega
  · congr 1
    omega
theorem four_enc3 (a b c : Int) (h : 0 ≤ a ∧ a < 256) (hb : 0 ≤ b ∧ b < 256) (hc : 0 ≤ c ∧ c < 256) : four (strOfNums (qd (a * 65536 + b * 256 + c) 3)) = ([a, b, c], true) := by
  have hr := qd_range (a * 65536 + b * 256 + c) 3
  rw [four_f4, bt_str _ hr, bt_str _ hr, bt_str _ hr, bt_str _ hr, qd3]
  show f4 (sg _) (sg _) (sg _) (sg _) = _
  have h2 := idx_sg' (n := (a * 65536 + b * 256 + c) / 64 % 64) (by omega) (by omega)
  have h3 := idx_sg' (n := (a * 65536 + b * 256 + c) % 64) (by omega) (by omega)
  rw [f4_of (by omega) (by omega) (by omega) (by omega), if_neg h2.2, h2.1, if_neg (by omega), if_neg h3.2, h3.1, if_neg (by omega), fres3 (by omega) (by omega)]
  congr 2
  · omega
  · congr 1
    · omega
    · congr 1
      omega
theorem bytes4 (s : ByteArray) (h : s.size = 4) : bytesOf s = [bt s 0, bt s 1, bt s 2, bt s 3] := by
  have hl : (bytesOf s).length = 4 := by rw [bytesOf_length, h]
  simp only [← rd_bytesOf]
  match bytesOf s, hl with
  | [a, b, c, d], _ => rfl
theorem sg_at {x c : Int} (hc : sg (idx c) = c) (h : x = idx c) : sg x = c := by rw [h, hc]
theorem list4 {a b c d a' b' c' d' : Int} (h : a = a') (h1 : b = b') (h2 : c = c') (h3 : d = d') : [a, b, c, d] = [a', b', c', d'] := by rw [h, h1, h2, h3]
/-- What four signs are the bytes of. -/
theorem four_back (s : ByteArray) (h : s.size = 4) (l : List Int) (hf : four s = (l, true)) : enc l = bytesOf s ∧ Byt l ∧ 1 ≤ l.length ∧ l.length ≤ 3 ∧ (l.length < 3 → bt s 3 = 61) := by
  rw [four_f4] at hf
  rw [bytes4 s h]
  have hb0 := bt256 s 0
  have hb1 := bt256 s 1
  have hb2 := bt256 s 2
  have hb3 := bt256 s 3
  generalize bt s 0 = c0 at *
  generalize bt s 1 = c1 at *
  generalize bt s 2 = c2 at *
  generalize bt s 3 = c3 at *
  unfold f4 at hf
  by_cases h01 : idx c0 < 0 ∨ idx c1 < 0
  · rw [if_pos h01] at hf; cases hf
  rw [if_neg h01] at hf
  have e0 := sg_idx' hb0.1 hb0.2 (by omega)
  have e1 := sg_idx' hb1.1 hb1.2 (by omega)
  by_cases h2 : c2 = 61
  · rw [if_pos h2] at hf
    by_cases h3 : c3 = 61
    · rw [if_pos h3, fres1 (by omega) (by omega)] at hf
      by_cases hm : (idx c0 * 64 + idx c1) * 4096 % 65536 = 0
      · rw [if_pos hm] at hf
        obtain ⟨rfl, _⟩ := Prod.mk.inj hf
        refine ⟨?_, ?_, by simp, by simp, fun _ => h3⟩
        · rw [enc, qd1]
          exact list4 (sg_at e0.2 (by omega)) (sg_at e1.2 (by omega)) h2.symm h3.symm
        · intro x hx
          simp at hx
          omega
      · rw [if_neg hm] at hf; cases hf
    · rw [if_neg h3] at hf; cases hf
  rw [if_neg h2] at hf
  by_cases h2i : idx c2 < 0
  · rw [if_pos h2i] at hf; cases hf
  rw [if_neg h2i] at hf
  have e2 := sg_idx' hb2.1 hb2.2 (by omega)
  by_cases h3 : c3 = 61
  · rw [if_pos h3, fres2 (by omega) (by omega)] at hf
    by_cases hm : ((idx c0 * 64 + idx c1) * 64 + idx c2) * 64 % 256 = 0
    · rw [if_pos hm] at hf
      obtain ⟨rfl, _⟩ := Prod.mk.inj hf
      refine ⟨?_, ?_, by simp, by simp, fun _ => h3⟩
      · rw [enc, qd2]
        exact list4 (sg_at e0.2 (by omega)) (sg_at e1.2 (by omega)) (sg_at e2.2 (by omega)) h3.symm
      · intro x hx
        simp at hx
        omega
    · rw [if_neg hm] at hf; cases hf
  rw [if_neg h3] at hf
  by_cases h3i : idx c3 < 0
  · rw [if_pos h3i] at hf; cases hf
  have e3 := sg_idx' hb3.1 hb3.2 (by omega)
  rw [if_neg h3i, fres3 (by omega) (by omega)] at hf
  obtain ⟨rfl, _⟩ := Prod.mk.inj hf
  refine ⟨?_, ?_, by simp, by simp, fun hh => by simp at hh⟩
  · rw [enc, enc, qd3, List.append_nil]
    exact list4 (sg_at e0.2 (by omega)) (sg_at e1.2 (by omega)) (sg_at e2.2 (by omega)) (sg_at e3.2 (by omega))
  · intro x hx
    simp at hx
    omega

theorem enc3 (a b c : Int) (r : List Int) : enc (a :: b :: c :: r) = qd (a * 65536 + b * 256 + c) 3 ++ enc r := by rw [enc]
theorem four_enc (l : List Int) (h : Byt l) (hl : 1 ≤ l.length) (hl3 : l.length ≤ 3) : four (strOfNums (enc l)) = (l, true) := by
  match l, hl, hl3 with
  | [a], _, _ => exact four_enc1 a (h a (by simp))
  | [a, b], _, _ => exact four_enc2 a b (h a (by simp)) (h b (by simp))
  | [a, b, c], _, _ =>
    have := four_enc3 a b c (h a (by simp)) (h b (by simp)) (h c (by simp))
    rw [enc3]
    simpa [enc] using this
theorem enc_inj (l m : List Int) (hl : Byt l) (hm : Byt m) (h : enc l = enc m) : l = m := by
  have hlen := congrArg List.length h
  rw [enc_length, enc_length] at hlen
  by_cases h0 : l.length = 0
  · have h1 : m.length = 0 := by omega
    rw [List.eq_nil_of_length_eq_zero h0, List.eq_nil_of_length_eq_zero h1]
  by_cases h3 : l.length ≤ 3
  · have e1 := four_enc l hl (by omega) h3
    have e2 := four_enc m hm (by omega) (by omega)
    rw [h, e2] at e1
    exact (Prod.mk.inj e1).1.symm
  · match l, m, h3, hlen with
    | a :: b :: c :: r, a' :: b' :: c' :: r', h3, hlen =>
      rw [enc3, enc3] at h
      obtain ⟨hq, hr⟩ := List.append_inj h rfl
      have e1 := four_enc3 a b c (hl a (by simp)) (hl b (by simp)) (hl c (by simp))
      have e2 := four_enc3 a' b' c' (hm a' (by simp)) (hm b' (by simp)) (hm c' (by simp))
      rw [hq, e2] at e1
      have e3 := (Prod.mk.inj e1).1
      have := enc_inj r r' (fun x hx => hl x (by simp [hx])) (fun x hx => hm x (by simp [hx])) hr
      rw [this]
      simp only [List.cons.injEq] at e3
      rw [e3.1, e3.2.1, e3.2.2.1]
    | a :: b :: c :: r, [], h3, hlen => exfalso; simp only [List.length_cons, List.length_nil] at hlen h3; omega
    | a :: b :: c :: r, [x], h3, hlen => exfalso; simp only [List.length_cons, List.length_nil] at hlen h3; omega
    | a :: b :: c :: r, [x, y], h3, hlen => exfalso; simp only [List.length_cons, List.length_nil] at hlen h3; omega
    | [], _, h3, _ => simp at h3
    | [x], _, h3, _ => simp at h3
    | [x, y], _, h3, _ => simp at h3
theorem str_take (L : List Int) : (strOfNums L).extract 0 4 = strOfNums (L.take 4) := by
  apply ByteArray.ext
  apply Array.ext'
  simp [strOfNums, List.map_take]
theorem str_drop (L : List Int) : (strOfNums L).extract 4 (strOfNums L).size = strOfNums (L.drop 4) := by
  apply ByteArray.ext
  apply Array.ext'
  simp [strOfNums, ByteArray.size]
  rw [List.take_of_length_le (by simp)]
theorem str_toList (L : List Int) : (strOfNums L).toList = [] ↔ L = [] := by
  rw [Lib.toList_data]
  simp [strOfNums]
theorem toList_inj {a b : ByteArray} (h : a.toList = b.toList) : a = b := by
  rw [Lib.toList_data, Lib.toList_data] at h
  exact ByteArray.ext (Array.ext' h)

end Go.Proofs.Ytbbikibgfpokpaa.Rad
