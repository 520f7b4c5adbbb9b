/- RadixTexts, the plain law: any bytes as a text, and the bytes of any text, are as the document's answer has them. No conditions. -/
import Derived.Test.YtbbikibgfpokpaaRadQ
set_option linter.unusedVariables false
namespace Go.Proofs.Ytbbikibgfpokpaa.Pure
open Go.RowKit Go.Proofs.Ytbbikibgfpokpaa.PRad Go.Proofs.YtbbikibgfpokpaaW.PrintWords Go.Proofs.YtbbikibgfpokpaaW.PrintLast Go.Proofs.Ytbbikibgfpokpaa.Rad

def wo (c : Int) : Int := if 0 ≤ idx c then idx c else 0
theorem worth65 : ∀ c : Fin 256, lanyardref02_worth.f 66 (c.val : Int) = some (wo (c.val : Int)) := by decide +kernel
theorem worth_any {c : Int} (h : 0 ≤ c ∧ c < 256) (k : Nat) (hk : 66 ≤ k) : lanyardref02_worth.f k c = some (wo c) := by
  obtain ⟨m, rfl⟩ := Int.eq_ofNat_of_zero_le h.1
  have h1 := worth65 ⟨m, by omega⟩
  have : ∀ d, lanyardref02_worth.f (66 + d) (m : Int) = some (wo (m : Int)) := by
    intro d
    induction d with
    | zero => exact h1
    | succ d ih => exact lanyardref02_worth.mono _ _ _ ih
  have := this (k - 66)
  rwa [show 66 + (k - 66) = k by omega] at this
theorem wo_range {c : Int} (h : 0 ≤ c ∧ c < 256) : 0 ≤ wo c ∧ wo c < 64 := by
  unfold wo
  split
  · exact ⟨by assumption, idx_lt h⟩
  · omega
theorem wo_sg {n : Int} (h : 0 ≤ n) (h1 : n < 64) : wo (sg n) = n := by
  unfold wo
  rw [(idx_sg' h h1).1, if_pos h]
theorem wo_pad : wo 61 = 0 := by decide +kernel

def n4 (a b c d : Int) : Int := wo a * 262144 + wo b * 4096 + wo c * 64 + wo d
def o3 (n : Int) : List Int := [n / 65536 % 256, n / 256 % 256, n % 256]
def o4 : List Int → List Int
  | a :: b :: c :: d :: r => o3 (n4 a b c d) ++ o4 r
  | _ => []
theorem o4_length (L : List Int) : (o4 L).length = L.length / 4 * 3 := by
  match L with
  | [] => rfl
  | [_] => simp [o4]
  | [_, _] => simp [o4]
  | [_, _, _] => simp [o4]
  | a :: b :: c :: d :: r =>
    have := o4_length r
    simp only [o4, o3, List.length_append, this, List.length_cons, List.length_nil]
    omega
theorem o4_byt (L : List Int) : Byt (o4 L) := by
  match L with
  | [] => simp [o4, Byt]
  | [_] => simp [o4, Byt]
  | [_, _] => simp [o4, Byt]
  | [_, _, _] => simp [o4, Byt]
  | a :: b :: c :: d :: r =>
    intro x hx
    simp only [o4, List.mem_append] at hx
    rcases hx with hx | hx
    · simp only [o3, List.mem_cons, List.not_mem_nil, or_false] at hx
      omega
    · exact o4_byt r x hx
/-- One sign taken off, if the text ends with it. -/
def st1 (L out : List Int) : List Int := if 1 < L.length ∧ 0 < out.length ∧ L.getD (L.length - 2) 0 = 61 then out.take (out.length - 1) else out
def st (L out : List Int) : List Int := if 0 < L.length ∧ 0 < out.length ∧ L.getD (L.length - 1) 0 = 61 then st1 L (out.take (out.length - 1)) else out
theorem st1_byt {L out : List Int} (h : Byt out) : Byt (st1 L out) := by unfold st1; split; exact byt_take h _; exact h
theorem st_byt {L out : List Int} (h : Byt out) : Byt (st L out) := by unfold st; split; exact st1_byt (byt_take h _); exact h
theorem st1_length (L out : List Int) : (st1 L out).length ≤ out.length := by unfold st1; split; (rw [List.length_take]; omega); exact Nat.le_refl _
theorem st_length (L out : List Int) : (st L out).length ≤ out.length := by
  unfold st
  split
  · exact Nat.le_trans (st1_length _ _) (by rw [List.length_take]; omega)
  · exact Nat.le_refl _
theorem getD_app (x L : List Int) (i : Nat) : (x ++ L).getD (x.length + i) 0 = L.getD i 0 := by
  simp [List.getD_eq_getElem?_getD, List.getElem?_append_right]
theorem take_app (y o : List Int) (h : 0 < o.length) : (y ++ o).take ((y ++ o).length - 1) = y ++ o.take (o.length - 1) := by
  rw [List.length_append, show y.length + o.length - 1 = y.length + (o.length - 1) by omega, List.take_length_add_append]
theorem st1_app (x L y o : List Int) (hL : 2 ≤ L.length) (ho : 1 ≤ o.length) : st1 (x ++ L) (y ++ o) = y ++ st1 L o := by
  unfold st1
  have e : (x ++ L).getD ((x ++ L).length - 2) 0 = L.getD (L.length - 2) 0 := by
    rw [List.length_append, show x.length + L.length - 2 = x.length + (L.length - 2) by omega, getD_app]
  rw [e, List.length_append, List.length_append]
  by_cases h : L.getD (L.length - 2) 0 = 61
  · rw [if_pos ⟨by omega, by omega, h⟩, if_pos ⟨by omega, by omega, h⟩, ← List.length_append, take_app y o (by omega)]
  · rw [if_neg (fun h2 => h h2.2.2), if_neg (fun h2 => h h2.2.2)]
theorem st_app (x L y o : List Int) (hL : 2 ≤ L.length) (ho : 2 ≤ o.length) : st (x ++ L) (y ++ o) = y ++ st L o := by
  unfold st
  have e : (x ++ L).getD ((x ++ L).length - 1) 0 = L.getD (L.length - 1) 0 := by
    rw [List.length_append, show x.length + L.length - 1 = x.length + (L.length - 1) by omega, getD_app]
  rw [e, List.length_append, List.length_append]
  by_cases h : L.getD (L.length - 1) 0 = 61
  · rw [if_pos ⟨by omega, by omega, h⟩, if_pos ⟨by omega, by omega, h⟩, ← List.length_append, take_app y o (by omega), st1_app x L y _ hL (by rw [List.length_take]; omega)]
  · rw [if_neg (fun h2 => h h2.2.2), if_neg (fun h2 => h h2.2.2)]
/-- The document's way reads what was written. -/
theorem st_enc (l : List Int) (h : Byt l) : st (enc l) (o4 (enc l)) = l := by
  match l with
  | [] => rfl
  | [a] =>
    have ha := h a (by simp)
    have hn : n4 (sg (a * 65536 / 262144 % 64)) (sg (a * 65536 / 4096 % 64)) 61 61 = a * 65536 := by
      unfold n4
      rw [wo_sg (by omega) (by omega), wo_sg (by omega) (by omega), wo_pad]
      omega
    rw [enc, qd1, o4, hn]
    simp only [o4, o3, st, st1]
    simp
    omega
  | [a, b] =>
    have ha := h a (by simp)
    have hb := h b (by simp)
    have hn : n4 (sg ((a * 65536 + b * 256) / 262144 % 64)) (sg ((a * 65536 + b * 256) / 4096 % 64)) (sg ((a * 65536 + b * 256) / 64 % 64)) 61 = a * 65536 + b * 256 := by
      unfold n4
      rw [wo_sg (by omega) (by omega), wo_sg (by omega) (by omega), wo_sg (by omega) (by omega), wo_pad]
      omega
    have h2 := (idx_sg' (n := (a * 65536 + b * 256) / 64 % 64) (by omega) (by omega)).2
    rw [enc, qd2, o4, hn]
    simp only [o4, o3, st, st1]
    simp [h2]
    omega
  | a :: b :: c :: r =>
    have ha := h a (by simp)
    have hb := h b (by simp)
    have hc := h c (by simp)
    have hn : o4 (qd (a * 65536 + b * 256 + c) 3 ++ enc r) = [a, b, c] ++ o4 (enc r) := by
      rw [qd3]
      simp only [List.cons_append, List.nil_append, o4]
      have : n4 (sg ((a * 65536 + b * 256 + c) / 262144 % 64)) (sg ((a * 65536 + b * 256 + c) / 4096 % 64)) (sg ((a * 65536 + b * 256 + c) / 64 % 64)) (sg ((a * 65536 + b * 256 + c) % 64)) = a * 65536 + b * 256 + c := by
        unfold n4
        rw [wo_sg (by omega) (by omega), wo_sg (by omega) (by omega), wo_sg (by omega) (by omega), wo_sg (by omega) (by omega)]
        omega
      rw [this]
      simp only [o3, List.cons_append, List.nil_append, List.cons.injEq, and_true]
      omega
    rw [enc3, hn]
    by_cases hr : r = []
    · subst hr
      have h3 := (idx_sg' (n := (a * 65536 + b * 256 + c) % 64) (by omega) (by omega)).2
      rw [qd3]
      simp only [enc, o4, st, List.append_nil]
      simp [h3]
    · have hl := enc_length r
      have hl2 := o4_length (enc r)
      have hp : 0 < r.length := List.length_pos_iff.2 hr
      rw [st_app _ _ _ _ (by omega) (by omega), st_enc r (fun x hx => h x (by simp [hx]))]
      rfl

theorem wrap_id {n : Int} (h : -9223372036854775808 ≤ n) (h1 : n ≤ 9223372036854775807) : wrap64 n = n := by unfold wrap64; omega
/-- The ending: the bytes' text must be it. -/
def fin (s : ByteArray) (out : List Int) : Option (List Int × Bool) := (lanyardref02_Encode.f out).bind fun t => if t.toList = s.toList then some (out, true) else some ([], false)
theorem rd_last (s : ByteArray) (i : Nat) (hi : i < s.size) : bt s (i : Int) = (bytesOf s).getD i 0 := by
  rw [← rd_bytesOf]
  rfl
theorem l1_two (k : Nat) (s : ByteArray) (out : List Int) : lanyardref02_Decode.l1 (k + 1) s out 2 = fin s out := by
  simp only [lanyardref02_Decode.l1]
  rw [if_neg (by omega)]
  rfl
theorem l1_one (k : Nat) (s : ByteArray) (out : List Int) (hs : s.size ≤ 1000) (ho : out.length ≤ 2000) : lanyardref02_Decode.l1 (k + 2) s out 1 = fin s (st1 (bytesOf s) out) := by
  have hb := bytesOf_length s
  rw [lanyardref02_Decode.l1]
  rw [if_pos (by decide)]
  unfold st1
  by_cases h1 : 1 < s.size
  · rw [if_pos (show ((s.size : Int) > 1) by omega)]
    by_cases h2 : 0 < out.length
    · have e1 : Aside0 (wrap64 ((s.size : Int) - 1) = (s.size : Int) - 1) := ⟨wrap_id (by omega) (by omega)⟩
      have e2 : Aside0 (wrap64 ((s.size : Int) - 1 - 1) = ((s.size - 2 : Nat) : Int)) := ⟨by rw [wrap_id (by omega) (by omega)]; omega⟩
      have e3 : Aside0 (wrap64 ((out.length : Int) - 1) = ((out.length - 1 : Nat) : Int)) := ⟨by rw [wrap_id (by omega) (by omega)]; omega⟩
      rw [if_pos (show ((out.length : Int) > 0) by omega), e1.out, e2.out, if_pos (by omega), if_pos (by omega), rd_last s _ (by omega), hb]
      by_cases h3 : (bytesOf s).getD (s.size - 2) 0 = 61
      · rw [if_pos h3, e3.out, if_pos (by omega), if_pos (by omega), if_pos ⟨by omega, h2, h3⟩, Int.toNat_natCast]
        rw [show wrap64 (1 + 1) = 2 from by unfold wrap64; omega]
        exact l1_two k s _
      · rw [if_neg h3, if_neg (fun h => h3 h.2.2)]
        rfl
    · rw [if_neg (show ¬ ((out.length : Int) > 0) by omega), if_neg (fun h => h2 h.2.1)]
      rfl
  · rw [if_neg (show ¬ ((s.size : Int) > 1) by omega), if_neg (fun h => h1 (by rw [← hb]; exact h.1))]
    rfl
theorem l1_zero (k : Nat) (s : ByteArray) (out : List Int) (hs : s.size ≤ 1000) (ho : out.length ≤ 2000) : lanyardref02_Decode.l1 (k + 3) s out 0 = fin s (st (bytesOf s) out) := by
  have hb := bytesOf_length s
  rw [lanyardref02_Decode.l1]
  rw [if_pos (by decide)]
  unfold st
  by_cases h1 : 0 < s.size
  · rw [if_pos (show ((s.size : Int) > 0) by omega)]
    by_cases h2 : 0 < out.length
    · have e1 : Aside0 (wrap64 ((s.size : Int) - 1) = (s.size : Int) - 1) := ⟨wrap_id (by omega) (by omega)⟩
      have e2 : Aside0 (wrap64 ((s.size : Int) - 1 - 0) = ((s.size - 1 : Nat) : Int)) := ⟨by rw [wrap_id (by omega) (by omega)]; omega⟩
      have e3 : Aside0 (wrap64 ((out.length : Int) - 1) = ((out.length - 1 : Nat) : Int)) := ⟨by rw [wrap_id (by omega) (by omega)]; omega⟩
      have e4 : Aside0 (wrap64 (0 + 1) = 1) := ⟨by unfold wrap64; omega⟩
      rw [if_pos (show ((out.length : Int) > 0) by omega), e1.out, e2.out, if_pos (by omega), if_pos (by omega), rd_last s _ (by omega), hb]
      by_cases h3 : (bytesOf s).getD (s.size - 1) 0 = 61
      · rw [if_pos h3, e3.out, if_pos (by omega), if_pos (by omega), if_pos ⟨by omega, h2, h3⟩, Int.toNat_natCast, e4.out]
        exact l1_one k s _ hs (by rw [List.length_take]; omega)
      · rw [if_neg h3, if_neg (fun h => h3 h.2.2)]
        rfl
    · rw [if_neg (show ¬ ((out.length : Int) > 0) by omega), if_neg (fun h => h2 h.2.1)]
      rfl
  · rw [if_neg (show ¬ ((s.size : Int) > 0) by omega), if_neg (fun h => h1 (by rw [← hb]; exact h.1))]
    rfl
theorem drop4 (L : List Int) (i : Nat) (h : i + 3 < L.length) : L.drop i = L.getD i 0 :: L.getD (i + 1) 0 :: L.getD (i + 2) 0 :: L.getD (i + 3) 0 :: L.drop (i + 4) := by
  have g : ∀ j, j < L.length → L.drop j = L.getD j 0 :: L.drop (j + 1) := fun j hj => by
    rw [List.drop_eq_getElem_cons hj, List.getD_eq_getElem?_getD, List.getElem?_eq_getElem hj]
    rfl
  rw [g i (by omega), g (i + 1) (by omega), g (i + 2) (by omega), g (i + 3) h]
theorem o4_short (L : List Int) (i : Nat) (h : ¬ i + 3 < L.length) : o4 (L.drop i) = [] := by
  have hl : (L.drop i).length ≤ 3 := by rw [List.length_drop]; omega
  match L.drop i, hl with
  | [], _ => rfl
  | [_], _ => rfl
  | [_, _], _ => rfl
  | [_, _, _], _ => rfl
theorem n4_wrap {a b c d : Int} (ha : 0 ≤ a ∧ a < 64) (hb : 0 ≤ b ∧ b < 64) (hc : 0 ≤ c ∧ c < 64) (hd : 0 ≤ d ∧ d < 64) :
    wrap64 (wrap64 (wrap64 (wrap64 (a * 262144) + wrap64 (b * 4096)) + wrap64 (c * 64)) + d) = a * 262144 + b * 4096 + c * 64 + d := by
  have x1 : wrap64 (a * 262144) = a * 262144 := wrap_id (by omega) (by omega)
  have x2 : wrap64 (b * 4096) = b * 4096 := wrap_id (by omega) (by omega)
  have x3 : wrap64 (c * 64) = c * 64 := wrap_id (by omega) (by omega)
  have x4 : wrap64 (a * 262144 + b * 4096) = a * 262144 + b * 4096 := wrap_id (by omega) (by omega)
  have x5 : wrap64 (a * 262144 + b * 4096 + c * 64) = a * 262144 + b * 4096 + c * 64 := wrap_id (by omega) (by omega)
  rw [x1, x2, x3, x4, x5]
  exact wrap_id (by omega) (by omega)
theorem o3_wrap {n : Int} (h : 0 ≤ n ∧ n < 16777216) : ([wrap64 (Int.tdiv n 65536) % 256, wrap64 (Int.tdiv n 256) % 256, n % 256] : List Int) = o3 n := by
  rw [Int.tdiv_eq_ediv_of_nonneg h.1, Int.tdiv_eq_ediv_of_nonneg h.1, wrap_id (n := n / 65536) (by omega) (by omega), wrap_id (n := n / 256) (by omega) (by omega)]
  rfl
theorem wrap_add (i j : Nat) (h : i + j ≤ 100000) : wrap64 ((i : Int) + (j : Int)) = ((i + j : Nat) : Int) := by rw [wrap_id (by omega) (by omega)]; omega
theorem l0_step (s : ByteArray) (i : Nat) (acc : List Int) (k : Nat) (hs : s.size ≤ 1000) (hlt : i + 3 < s.size) (ha : acc.length ≤ 2000) (hk : 66 ≤ k) :
    lanyardref02_Decode.l0 (k + 1) s acc (i : Int) = lanyardref02_Decode.l0 k s (acc ++ o3 (n4 (bt s (i : Int)) (bt s ((i + 1 : Nat) : Int)) (bt s ((i + 2 : Nat) : Int)) (bt s ((i + 3 : Nat) : Int)))) ((i + 4 : Nat) : Int) := by
  have e1 : wrap64 ((i : Int) + 1) = ((i + 1 : Nat) : Int) := wrap_add i 1 (by omega)
  have e2 : wrap64 ((i : Int) + 2) = ((i + 2 : Nat) : Int) := wrap_add i 2 (by omega)
  have e3 : wrap64 ((i : Int) + 3) = ((i + 3 : Nat) : Int) := wrap_add i 3 (by omega)
  have e4 : wrap64 ((i : Int) + 4) = ((i + 4 : Nat) : Int) := wrap_add i 4 (by omega)
  have p0 : (0 : Int) ≤ (i : Int) := Int.natCast_nonneg _
  have p1 : (0 : Int) ≤ ((i + 1 : Nat) : Int) := Int.natCast_nonneg _
  have p2 : (0 : Int) ≤ ((i + 2 : Nat) : Int) := Int.natCast_nonneg _
  have p3 : (0 : Int) ≤ ((i + 3 : Nat) : Int) := Int.natCast_nonneg _
  have q0 : (i : Int) < (s.size : Int) := Int.ofNat_lt.2 (Nat.lt_of_le_of_lt (Nat.le_add_right _ _) hlt)
  have q1 : ((i + 1 : Nat) : Int) < (s.size : Int) := Int.ofNat_lt.2 (Nat.lt_of_le_of_lt (Nat.add_le_add_left (by decide) _) hlt)
  have q2 : ((i + 2 : Nat) : Int) < (s.size : Int) := Int.ofNat_lt.2 (Nat.lt_of_le_of_lt (Nat.add_le_add_left (by decide) _) hlt)
  have q3 : ((i + 3 : Nat) : Int) < (s.size : Int) := Int.ofNat_lt.2 hlt
  have c0 := bt256 s (i : Int)
  have c1 := bt256 s ((i + 1 : Nat) : Int)
  have c2 := bt256 s ((i + 2 : Nat) : Int)
  have c3 := bt256 s ((i + 3 : Nat) : Int)
  rw [lanyardref02_Decode.l0]
  rw [e3, e1, e2, e4, if_pos q3, if_pos p0, if_pos q0]
  generalize bt s (i : Int) = b0 at *
  generalize bt s ((i + 1 : Nat) : Int) = b1 at *
  generalize bt s ((i + 2 : Nat) : Int) = b2 at *
  generalize bt s ((i + 3 : Nat) : Int) = b3 at *
  have v0 := wo_range c0
  have v1 := wo_range c1
  have v2 := wo_range c2
  have v3 := wo_range c3
  rw [worth_any c0 k hk, worth_any c1 k hk, worth_any c2 k hk, worth_any c3 k hk]
  simp only [Option.bind_some]
  rw [if_pos p1, if_pos q1, if_pos p2, if_pos q2, if_pos p3, n4_wrap v0 v1 v2 v3]
  have hr : 0 ≤ n4 b0 b1 b2 b3 ∧ n4 b0 b1 b2 b3 < 16777216 := by unfold n4; omega
  rw [show wo b0 * 262144 + wo b1 * 4096 + wo b2 * 64 + wo b3 = n4 b0 b1 b2 b3 from rfl, o3_wrap hr, if_pos (by show acc.length + 3 < _; omega)]
theorem o4_step (s : ByteArray) (i : Nat) (hlt : i + 3 < s.size) : o4 ((bytesOf s).drop i) = o3 (n4 (bt s (i : Int)) (bt s ((i + 1 : Nat) : Int)) (bt s ((i + 2 : Nat) : Int)) (bt s ((i + 3 : Nat) : Int))) ++ o4 ((bytesOf s).drop (i + 4)) := by
  have hb := bytesOf_length s
  rw [drop4 (bytesOf s) i (by omega), ← rd_last s _ (by omega), ← rd_last s _ (by omega), ← rd_last s _ (by omega), ← rd_last s _ (by omega), o4]
theorem l0_any (s : ByteArray) (hs : s.size ≤ 1000) (d : Nat) : ∀ (i : Nat) (acc : List Int) (k : Nat), i ≤ s.size + 3 → s.size + 3 - i ≤ d → acc.length ≤ i → d + 80 ≤ k →
    lanyardref02_Decode.l0 k s acc (i : Int) = fin s (st (bytesOf s) (acc ++ o4 ((bytesOf s).drop i))) := by
  have hb := bytesOf_length s
  have stop : ∀ (i : Nat) (acc : List Int) (k : Nat), i ≤ s.size + 3 → ¬ i + 3 < s.size → acc.length ≤ i → lanyardref02_Decode.l0 (k + 4) s acc (i : Int) = fin s (st (bytesOf s) (acc ++ o4 ((bytesOf s).drop i))) := by
    intro i acc k hi hlt ha
    have e3 : wrap64 ((i : Int) + 3) = ((i + 3 : Nat) : Int) := wrap_add i 3 (by omega)
    rw [lanyardref02_Decode.l0, e3, if_neg (fun h => hlt (Int.ofNat_lt.1 h)), o4_short _ _ (by rw [hb]; exact hlt), List.append_nil]
    exact l1_zero k s acc hs (by omega)
  induction d with
  | zero =>
    intro i acc k hi hd ha hk
    obtain ⟨k, rfl⟩ : ∃ m, k = m + 4 := ⟨k - 4, by omega⟩
    exact stop i acc k hi (by omega) ha
  | succ d ih =>
    intro i acc k hi hd ha hk
    by_cases hlt : i + 3 < s.size
    · obtain ⟨k, rfl⟩ : ∃ m, k = m + 1 := ⟨k - 1, by omega⟩
      rw [l0_step s i acc k hs hlt (by omega) (by omega), o4_step s i hlt, ← List.append_assoc]
      exact ih (i + 4) _ k (by omega) (by omega) (by simp [o3]; omega) (by omega)
    · obtain ⟨k, rfl⟩ : ∃ m, k = m + 4 := ⟨k - 4, by omega⟩
      exact stop i acc k hi hlt ha
/-- The document's Decode: the bytes whose text it is, or none. -/
theorem ref_told (s : ByteArray) (hs : s.size ≤ 1000) (k : Nat) (hk : 1100 ≤ k) : ∃ r ok, lanyardref02_Decode.f k s = some (r, ok) ∧ DecTold (bytesOf s) [] r ok := by
  have hb := bytesOf_length s
  have h := l0_any s hs (s.size + 3) 0 [] k (by omega) (by omega) (by simp) (by omega)
  have hl := st_length (bytesOf s) (o4 (bytesOf s))
  have hl2 := o4_length (bytesOf s)
  have hby : Byt (st (bytesOf s) (o4 (bytesOf s))) := st_byt (o4_byt _)
  have he : lanyardref02_Encode.f (st (bytesOf s) (o4 (bytesOf s))) = some (strOfNums (enc (st (bytesOf s) (o4 (bytesOf s))))) := by
    unfold lanyardref02_Encode.f
    rw [if_pos ⟨by omega, hby⟩]
  unfold lanyardref02_Decode.f
  rw [show ((0 : Nat) : Int) = 0 from rfl, List.nil_append, List.drop_zero] at h
  rw [h]
  unfold fin
  rw [he]
  simp only [Option.bind_some]
  by_cases hq : enc (st (bytesOf s) (o4 (bytesOf s))) = bytesOf s
  · rw [if_pos (by rw [hq, strOfNums_bytesOf])]
    exact ⟨_, _, rfl, .inl ⟨rfl, _, hby, hq, rfl⟩⟩
  · rw [if_neg (fun hh => hq (by have h5 := congrArg bytesOf (toList_inj hh); rw [bytesOf_strOfNums _ (enc_range _)] at h5; exact h5))]
    refine ⟨_, _, rfl, .inr ⟨rfl, rfl, fun l hlb hle => hq ?_⟩⟩
    have := st_enc l hlb
    rw [hle] at this
    rw [this, hle]
theorem told_same {L r r' : List Int} {ok ok' : Bool} (h : DecTold L [] r ok) (h' : DecTold L [] r' ok') : r = r' ∧ ok = ok' := by
  rcases h with ⟨rfl, l, hl, he, rfl⟩ | ⟨rfl, rfl, hno⟩ <;> rcases h' with ⟨rfl, l', hl', he', rfl⟩ | ⟨rfl, rfl, hno'⟩
  · exact ⟨enc_inj _ _ hl hl' (he.trans he'.symm), rfl⟩
  · exact absurd he (hno' _ hl)
  · exact absurd he' (hno _ hl')
  · exact ⟨rfl, rfl⟩

theorem RadixTexts : lanyardlaw02_RadixTexts.Pure := by
  intro l0 a1 hm h8 hw ha
  have hb : Byt l0 := fun x hx => by have := hw x hx; simp [Lit.wf, IntKind.min, IntKind.max, IntKind.signed, IntKind.bits] at this; omega
  unfold lanyardlaw02_RadixTexts.f lanyardlaw02_awake.f
  simp only [Option.bind_some]
  by_cases g0 : (l0.length : Int) > 1000
  · exact ⟨1, by rw [if_pos g0]; simp [lanyardlaw02_RadixTexts.j0]⟩
  by_cases g1 : (a1.size : Int) > 1000
  · exact ⟨1, by rw [if_neg g0, decide_eq_true g1]; simp [lanyardlaw02_RadixTexts.j0]⟩
  obtain ⟨r, ok, hd, ht⟩ := decode_any a1 ha
  have hd2 := decode_up _ _ _ hd (2000 - (a1.size + 1))
  rw [show a1.size + 1 + (2000 - (a1.size + 1)) = 2000 by omega] at hd2
  obtain ⟨r', ok', hd', ht'⟩ := ref_told a1 (by omega) 2000 (by omega)
  obtain ⟨rfl, rfl⟩ := told_same ht ht'
  have he : radix_Encode.f l0 = some (strOfNums (enc l0)) := by unfold radix_Encode.f; rw [if_pos ⟨by omega, hb⟩]
  have he' : lanyardref02_Encode.f l0 = some (strOfNums (enc l0)) := by unfold lanyardref02_Encode.f; rw [if_pos ⟨by omega, hb⟩]
  have hsz : decide ((a1.size : Int) > 1000) = false := decide_eq_false g1
  refine ⟨2001, ?_⟩
  rw [if_neg g0, hsz]
  simp only [lanyardlaw02_RadixTexts.j0]
  rw [hd2, hd', he, he']
  simp

end Go.Proofs.Ytbbikibgfpokpaa.Pure
