/- radix.Bare: a text without blanks and line ends. -/
import Derived.Test.YtbbikibgfpokpaaDoorRad3
set_option linter.unusedVariables false
namespace Go.Proofs.YtbbikibgfpokpaaDoor.Rad
open Go.RowKit Go.Proofs.YtbbikibgfpokpaaDoorW.PrintWords Go.Proofs.YtbbikibgfpokpaaDoorW.PrintLast Go.Proofs.YtbbikibgfpokpaaDoorW.PrintMore
attribute [local go_sem] max2_int min2_int max_two min_two

def blank (c : Int) : Bool := c == 9 || c == 10 || c == 13 || c == 32
def bareN (s : ByteArray) : Nat → List Int
  | 0 => []
  | j + 1 => if blank (bt s j) = true then bareN s j else bareN s j ++ [bt s j]
theorem bareN_length (s : ByteArray) : ∀ j, (bareN s j).length ≤ j
  | 0 => Nat.le_refl _
  | j + 1 => by
    have := bareN_length s j
    unfold bareN
    split
    · omega
    · simp; omega
theorem bareN_yes {s : ByteArray} {j : Nat} (h : blank (bt s j) = true) : bareN s (j + 1) = bareN s j := if_pos h
theorem bareN_no {s : ByteArray} {j : Nat} (h : blank (bt s j) = false) : bareN s (j + 1) = bareN s j ++ [bt s j] := if_neg (by rw [h]; simp)
theorem bt_range (s : ByteArray) (j : Nat) (h : j < s.size) : 0 ≤ bt s j ∧ bt s j < 256 := by
  have h1 : ((s[j]'h).toNat : Int) = bt s j := by have := bt_at s j; simpa using this h
  have h2 := (s[j]'h).toNat_lt
  omega
theorem bareN_range (s : ByteArray) : ∀ j, j ≤ s.size → ∀ x ∈ bareN s j, 0 ≤ x ∧ x < 256
  | 0, _, x, hx => by cases hx
  | j + 1, h, x, hx => by
    cases hb : blank (bt s j) with
    | true => rw [bareN_yes hb] at hx; exact bareN_range s j (by omega) x hx
    | false =>
      rw [bareN_no hb] at hx
      rcases List.mem_append.1 hx with hx | hx
      · exact bareN_range s j (by omega) x hx
      · rw [List.mem_singleton.1 hx]; exact bt_range s j (by omega)

set_option maxHeartbeats 4000000 in
set_option maxRecDepth 100000 in
theorem bare_walk (s : ByteArray) (w : World) (hs : s.size ≤ 1000000000) :
    Calls Tryd.prog 9 #[.string s] w fun e w' => e = .returned (.string (strOfNums (bareN s s.size))) ∧ Below w.heap.size w w' := by
  go_enter Tryd.func9, Tryd.ntmps9
  go_wp2
  go_step3
  go_wp2
  go_step3
  go_wp2
  go_loopw [7] (fun kv wr => ∃ j : Nat, j ≤ s.size ∧ kv = .int .i64 j ∧ Hid (Lib.IsBuilderF 37 5 w.heap.size w.heap.size (nums .u8 (bareN s j)) wr) ∧ Below w.heap.size w wr) (fun kv _ => s.size - (intOf kv).toNat)
  case atStart =>
    exact ⟨0, by omega, rfl, Lib.IsBuilderF.of (Lib.fresh_isBuilder _ _ w), (Below.refl _ _).alloc (Nat.le_refl _) _⟩
  case round =>
    obtain ⟨j, hj, rfl, hbd, hb⟩ := hrel
    have hsz : w.heap.size ≤ wr.heap.size := hb.size
    have hbl := bareN_length s j
    by_cases hlt : j < s.size
    · have hbt : ∀ h : j < s.size, ((s[j]'h).toNat : Int) = bt s j := fun h => by have := bt_at s j; simpa using this h
      obtain ⟨x, hx⟩ : ∃ x, x = bt s j := ⟨_, rfl⟩
      rw [← hx] at hbt
      have HX := Lib.hid hx
      clear hx
      by_cases h9 : x = 9
      · have HB : Hid (blank (bt s j) = true) := (show _ = _ by rw [← HX.out, h9]; rfl)
        have d9 : (x == 9) = true := by simp [h9]
        clear h9
        go_wp2
        exact ⟨⟨j + 1, by omega, by go_num, by rw [bareN_yes HB.out]; exact hbd, hb⟩, by simp [intOf]; omega⟩
      · have d9 : (x == 9) = false := by simp [h9]
        by_cases h10 : x = 10
        · have HB : Hid (blank (bt s j) = true) := (show _ = _ by rw [← HX.out, h10]; rfl)
          have d10 : (x == 10) = true := by simp [h10]
          clear h9 h10
          go_wp2
          exact ⟨⟨j + 1, by omega, by go_num, by rw [bareN_yes HB.out]; exact hbd, hb⟩, by simp [intOf]; omega⟩
        · have d10 : (x == 10) = false := by simp [h10]
          by_cases h13 : x = 13
          · have HB : Hid (blank (bt s j) = true) := (show _ = _ by rw [← HX.out, h13]; rfl)
            have d13 : (x == 13) = true := by simp [h13]
            clear h9 h10 h13
            go_wp2
            exact ⟨⟨j + 1, by omega, by go_num, by rw [bareN_yes HB.out]; exact hbd, hb⟩, by simp [intOf]; omega⟩
          · have d13 : (x == 13) = false := by simp [h13]
            by_cases h32 : x = 32
            · have HB : Hid (blank (bt s j) = true) := (show _ = _ by rw [← HX.out, h32]; rfl)
              have d32 : (x == 32) = true := by simp [h32]
              clear h9 h10 h13 h32
              go_wp2
              exact ⟨⟨j + 1, by omega, by go_num, by rw [bareN_yes HB.out]; exact hbd, hb⟩, by simp [intOf]; omega⟩
            · have d32 : (x == 32) = false := by simp [h32]
              have HB : Hid (blank (bt s j) = false) := (show _ = _ by rw [← HX.out]; simp [blank, h9, h10, h13, h32])
              have hap : nums .u8 (bareN s (j + 1)) = nums .u8 (bareN s j) ++ [.int .u8 x] := by rw [bareN_no HB.out, HX.out]; simp [nums]
              have HAP := Lib.hid hap
              clear h9 h10 h13 h32 hap
              go_wp2_with (fail)
              refine (Bld.writeByte_k w.heap.size w.heap.size (nums .u8 (bareN s j)) x _ hbd.out (by simp [nums]; omega) hsz).mono ?_
              rintro e w3 ⟨rfl, hb3, hl3, hk3⟩
              go_wp2
              exact ⟨⟨j + 1, by omega, by go_num, (.inr (by rw [HAP.out]; exact hb3)), hb.trans hl3⟩, by simp [intOf]; omega⟩
    · obtain rfl : j = s.size := by omega
      have hB := hbd.out
      rw [nums_bytes _ (bareN_range s s.size (Nat.le_refl _))] at hB
      have hB2 : Hid (Lib.IsBuilderF 37 5 w.heap.size w.heap.size (Lib.byteCells (Lib.bytesOf (bareN s s.size))) wr) := hB
      clear hB hbd
      go_wp2_with (fail)
      refine (Tryd.Builder_String_any_k w.heap.size w.heap.size (Lib.bytesOf (bareN s s.size)) _ hB2.out hsz).mono ?_
      rintro e w3 ⟨rfl, _, hl3, _⟩
      go_wp2
      try rw [Exit.noGoto_ret]
      go_ret
      exact ⟨by rw [str_bytes]; rfl, hb.trans hl3⟩

end Go.Proofs.YtbbikibgfpokpaaDoor.Rad
