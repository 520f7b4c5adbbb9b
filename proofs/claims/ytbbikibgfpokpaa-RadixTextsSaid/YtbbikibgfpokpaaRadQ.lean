/- What radix.Decode comes to: the bytes whose text it is given, or none. -/
import Derived.Test.YtbbikibgfpokpaaPRadx
import Derived.Test.YtbbikibgfpokpaaRadP
set_option linter.unusedVariables false
namespace Go.Proofs.Ytbbikibgfpokpaa.Rad
open Go.RowKit Go.Proofs.YtbbikibgfpokpaaW.PrintWords Go.Proofs.YtbbikibgfpokpaaW.PrintLast Go.Proofs.YtbbikibgfpokpaaW.PrintMore Go.Proofs.Ytbbikibgfpokpaa.PRad

def DecTold (L acc : List Int) (r : List Int) (ok : Bool) : Prop :=
  (ok = true ∧ ∃ l, Byt l ∧ enc l = L ∧ r = acc ++ l) ∨ (ok = false ∧ r = [] ∧ ∀ l, Byt l → enc l ≠ L)

theorem byt_take {L : List Int} (h : Byt L) (n : Nat) : Byt (L.take n) := fun x hx => h x (List.mem_of_mem_take hx)
theorem byt_drop {L : List Int} (h : Byt L) (n : Nat) : Byt (L.drop n) := fun x hx => h x (List.mem_of_mem_drop hx)

/-- Of what text four signs and more are: those of three bytes and more, or all of one or two bytes. -/
theorem enc_split (l L : List Int) (hl : Byt l) (h : enc l = L) (hL : 4 ≤ L.length) :
    (∃ a b c r, l = a :: b :: c :: r ∧ qd (a * 65536 + b * 256 + c) 3 = L.take 4 ∧ enc r = L.drop 4) ∨ (1 ≤ l.length ∧ l.length ≤ 2 ∧ L.drop 4 = [] ∧ L.take 4 = L) := by
  subst h
  match l with
  | [] => simp [enc] at hL
  | [a] => exact .inr ⟨by simp, by simp, rfl, rfl⟩
  | [a, b] => exact .inr ⟨by simp, by simp, rfl, rfl⟩
  | a :: b :: c :: r =>
    refine .inl ⟨a, b, c, r, rfl, ?_, ?_⟩
    · rw [enc3, List.take_append_of_le_length (by rw [qd_length]; omega), List.take_of_length_le (by rw [qd_length]; omega)]
    · rw [enc3, List.drop_append_of_le_length (by rw [qd_length]; omega), List.drop_of_length_le (by rw [qd_length]; omega)]
      rfl

theorem decode_l0 (n : Nat) : ∀ (L : List Int), Byt L → L.length = 4 * n → ∀ (k : Nat) (acc : List Int), n < k → acc.length + 3 * n < 140737488355328 →
    ∃ r ok, radix_Decode.l0 k (strOfNums L) acc = some (r, ok) ∧ DecTold L acc r ok := by
  induction n with
  | zero =>
    intro L hL hn k acc hk hb
    obtain ⟨k, rfl⟩ : ∃ m, k = m + 1 := ⟨k - 1, by omega⟩
    obtain rfl : L = [] := List.eq_nil_of_length_eq_zero (by omega)
    refine ⟨acc, true, ?_, .inl ⟨rfl, [], by simp [Byt], rfl, by simp⟩⟩
    simp only [radix_Decode.l0]
    rw [if_pos ((str_toList []).2 rfl)]
  | succ n ih =>
    intro L hL hn k acc hk hb
    obtain ⟨k, rfl⟩ : ∃ m, k = m + 1 := ⟨k - 1, by omega⟩
    have hne : ¬ L = [] := by rintro rfl; simp at hn
    have hq : (L.take 4).length = 4 := by rw [List.length_take]; omega
    have hd : (L.drop 4).length = 4 * n := by rw [List.length_drop]; omega
    have hsz : (strOfNums (L.take 4)).size = 4 := by rw [strOfNums_size, hq]
    have hcut : L.take 4 ++ L.drop 4 = L := List.take_append_drop 4 L
    have hs4 : ((4 : Int) ≤ ((strOfNums L).size : Int)) := by rw [strOfNums_size]; omega
    simp only [radix_Decode.l0]
    rw [if_neg (fun h => hne ((str_toList L).1 h)), if_pos (by decide), if_pos hs4, str_take, str_drop]
    unfold radix_four.f
    rw [if_pos hsz]
    simp only [Option.bind_some]
    cases hf : four (strOfNums (L.take 4)) with
    | mk l3 ok =>
    cases ok with
    | false =>
      simp only [Bool.false_eq_true, if_false]
      refine ⟨[], false, rfl, .inr ⟨rfl, rfl, fun l hl he => ?_⟩⟩
      rcases enc_split l L hl he (by omega) with ⟨a, b, c, r, rfl, hqd, _⟩ | ⟨h1, h2, _, h4⟩
      · have e := four_enc3 a b c (hl a (by simp)) (hl b (by simp)) (hl c (by simp))
        rw [hqd, hf] at e
        cases e
      · have e := four_enc l hl h1 (by omega)
        rw [he, ← h4, hf] at e
        cases e
    | true =>
      obtain ⟨he3, hb3, hl1, hl3, hpad⟩ := four_back _ hsz l3 hf
      rw [bytesOf_strOfNums _ (byt_take hL 4)] at he3
      rw [bt_str _ (byt_take hL 4)] at hpad
      simp only [if_true]
      by_cases hs : l3.length < 3
      · rw [if_pos (show ((l3.length : Int) < 3) by omega)]
        by_cases hnil : L.drop 4 = []
        · rw [if_pos ((str_toList _).2 hnil), if_pos (by omega)]
          obtain ⟨r, ok, h1, h2⟩ := ih (L.drop 4) (byt_drop hL 4) hd k (acc ++ l3) (by omega) (by rw [List.length_append]; omega)
          refine ⟨r, ok, h1, ?_⟩
          rcases h2 with ⟨rfl, l, hlb, hle, rfl⟩ | ⟨rfl, rfl, hno⟩
          · have hl0 : l = [] := by
              have := congrArg List.length hle
              rw [enc_length, hnil] at this
              exact List.eq_nil_of_length_eq_zero (by simp at this; omega)
            subst hl0
            exact .inl ⟨rfl, l3, hb3, he3.trans (by have hc2 := hcut; rw [hnil, List.append_nil] at hc2; exact hc2), by simp⟩
          · exact absurd (by rw [hnil]; rfl) (hno [] (by simp [Byt]))
        · rw [if_neg (fun h => hnil ((str_toList _).1 h))]
          refine ⟨[], false, rfl, .inr ⟨rfl, rfl, fun l hl he => ?_⟩⟩
          rcases enc_split l L hl he (by omega) with ⟨a, b, c, r, rfl, hqd, _⟩ | ⟨h1, h2, h3, _⟩
          · have hp := hpad hs
            rw [← hqd, qd3] at hp
            have a1 := hl a (by simp)
            have b1 := hl b (by simp)
            have c1 := hl c (by simp)
            exact (idx_sg' (n := (a * 65536 + b * 256 + c) % 64) (by omega) (by omega)).2 hp
          · exact hnil h3
      · rw [if_neg (show ¬ ((l3.length : Int) < 3) by omega), if_pos (by omega)]
        obtain ⟨r, ok, h1, h2⟩ := ih (L.drop 4) (byt_drop hL 4) hd k (acc ++ l3) (by omega) (by rw [List.length_append]; omega)
        refine ⟨r, ok, h1, ?_⟩
        rcases h2 with ⟨rfl, l, hlb, hle, rfl⟩ | ⟨rfl, rfl, hno⟩
        · refine .inl ⟨rfl, l3 ++ l, fun x hx => (List.mem_append.1 hx).elim (hb3 x) (hlb x), ?_, by simp⟩
          rw [enc_append _ _ (by omega), he3, hle, hcut]
        · refine .inr ⟨rfl, rfl, fun l hl he => ?_⟩
          rcases enc_split l L hl he (by omega) with ⟨a, b, c, r, rfl, _, hr⟩ | ⟨_, _, h3, _⟩
          · exact hno r (fun x hx => hl x (by simp [hx])) hr
          · exact hno [] (by simp [Byt]) (by rw [h3]; rfl)

theorem decode_any (s : ByteArray) (hs : s.size ≤ 140737488351232) : ∃ r ok, radix_Decode.f (s.size + 1) s = some (r, ok) ∧ DecTold (bytesOf s) [] r ok := by
  unfold radix_Decode.f
  by_cases h4 : (s.size : Int) % 4 = 0
  · rw [if_pos h4]
    have hn : (bytesOf s).length = 4 * (s.size / 4) := by rw [bytesOf_length]; omega
    have := decode_l0 (s.size / 4) (bytesOf s) (bytesOf_byt s) hn (s.size + 1) [] (by omega) (by simp; omega)
    rwa [strOfNums_bytesOf] at this
  · rw [if_neg h4]
    refine ⟨[], false, rfl, .inr ⟨rfl, rfl, fun l _ he => ?_⟩⟩
    have := congrArg List.length he
    rw [enc_length, bytesOf_length] at this
    omega
theorem decode_up (s : ByteArray) (k : Nat) (x : List Int × Bool) (h : radix_Decode.f k s = some x) (d : Nat) : radix_Decode.f (k + d) s = some x := by
  induction d with
  | zero => exact h
  | succ d ih => exact radix_Decode.mono _ _ _ ih
theorem decode_enc (l : List Int) (h : Byt l) (hl : l.length ≤ 1000000) (k : Nat) (hk : (enc l).length < k) : radix_Decode.f k (strOfNums (enc l)) = some (l, true) := by
  have hlen := enc_length l
  obtain ⟨r, ok, h1, h2⟩ := decode_any (strOfNums (enc l)) (by rw [strOfNums_size]; omega)
  rw [strOfNums_size] at h1
  rw [bytesOf_strOfNums _ (enc_range l)] at h2
  rcases h2 with ⟨rfl, m, hm, he, rfl⟩ | ⟨_, _, hno⟩
  · have := enc_inj _ l hm h he
    rw [this] at h1
    have h3 := decode_up _ _ _ h1 (k - ((enc l).length + 1))
    rw [show (enc l).length + 1 + (k - ((enc l).length + 1)) = k by omega] at h3
    simpa using h3
  · exact absurd rfl (hno l h)

end Go.Proofs.Ytbbikibgfpokpaa.Rad
