/- RadixJoined: the walk. -/
import Derived.Test.YtbbikibgfpokpaaDoorLinQ
set_option linter.unusedVariables false
namespace Go.Proofs.YtbbikibgfpokpaaDoor.LinQ
open Go.RowKit Go.Proofs.YtbbikibgfpokpaaDoor.PRad Go.Proofs.YtbbikibgfpokpaaDoorW.PrintWords Go.Proofs.YtbbikibgfpokpaaDoorW.PrintLast Go.Proofs.YtbbikibgfpokpaaDoorW.PrintMore

def endB (long : Bool) : ByteArray := if long = true then ⟨#[13, 10]⟩ else ⟨#[10]⟩
def joinB (long : Bool) (l : List ByteArray) : ByteArray := l.foldl (fun s x => (s ++ x) ++ endB long) ⟨#[]⟩
def Clear (x : ByteArray) : Prop := ∀ b, b ∈ x.data.toList → b ≠ 10 ∧ b ≠ 13
def Good (x : ByteArray) : Prop := x.size ≤ 100 ∧ Clear x

theorem joinB_snoc (long : Bool) (l : List ByteArray) (x : ByteArray) : joinB long (l ++ [x]) = (joinB long l ++ x) ++ endB long := by simp [joinB]
theorem foldl_data (long : Bool) : ∀ (l : List ByteArray) (s : ByteArray), (l.foldl (fun s x => (s ++ x) ++ endB long) s).data.toList = s.data.toList ++ Lin.ended (endB long).data.toList (l.map (·.data.toList))
  | [], s => by simp [Lin.ended]
  | x :: l, s => by
    rw [List.foldl_cons, foldl_data long l, List.map_cons, Lin.ended]
    simp
theorem joinB_data (long : Bool) (l : List ByteArray) : (joinB long l).data.toList = Lin.ended (endB long).data.toList (l.map (·.data.toList)) := by
  unfold joinB
  rw [foldl_data]
  simp
theorem joinB_lines (long : Bool) (l : List ByteArray) (h : ∀ x, x ∈ l → Clear x) : Spl.linesR (joinB long l) = l := by
  apply map_data_inj
  rw [Spl.linesR_data, joinB_data]
  have h2 : ∀ x, x ∈ l.map (·.data.toList) → ∀ b, b ∈ x → b ≠ 10 ∧ b ≠ 13 := by
    intro x hx
    obtain ⟨y, hy, rfl⟩ := List.mem_map.1 hx
    exact h y hy
  cases long with
  | true => exact Lin.lines_ended_long _ h2
  | false => exact Lin.lines_ended_short _ h2

theorem takeClear {x : ByteArray} {k : Nat} (hk : k < x.size) (h : ∀ b, b ∈ x.data.toList.take k → b ≠ 10 ∧ b ≠ 13) (h1 : ¬ bt x (k : Int) = 10) (h2 : ¬ bt x (k : Int) = 13) : ∀ b, b ∈ x.data.toList.take (k + 1) → b ≠ 10 ∧ b ≠ 13 := by
  intro b hb
  rw [List.take_succ_eq_append_getElem (by rw [size_len]; exact hk)] at hb
  rw [bt_list x k hk] at h1 h2
  rcases List.mem_append.1 hb with hb | hb
  · exact h b hb
  · rw [List.mem_singleton.1 hb]
    exact ⟨fun e => h1 ((byte_iff _ 10 10 rfl).2 e), fun e => h2 ((byte_iff _ 13 13 rfl).2 e)⟩

set_option maxHeartbeats 8000000 in
set_option maxRecDepth 100000 in
theorem joined_walk (A : Option Addr) (c : Nat) (l : List ByteArray) (long : Bool) (w : World) (hr : Kd.C Kd.string w A l.length l) (hc : l.length ≤ c) (hl : l.length ≤ 50) :
    Calls Tryd.prog 3 #[.slice A l.length c, .bool long] w fun e w' => e = .returned (.bool true) ∧ Below w.heap.size w w' := by
  have d0 : decide ((50 : Int) < (l.length : Int)) = false := decide_eq_false (by omega)
  go_enter Tryd.func3, Tryd.ntmps3
  go_wp2_with (fail)
  refine (lanyardlaw02_awake.calls true w rfl).mono ?_
  rintro e w1 ⟨rfl, hb1⟩
  go_wp2
  go_loopw [6, 7] (fun sv iv wr => ∃ (k : Nat) (s : ByteArray), k ≤ l.length ∧ iv = .int .i64 k ∧ sv = .string s ∧ Hid (s = joinB long (l.take k)) ∧ s.size ≤ 102 * k ∧ Hid (∀ x, x ∈ l.take k → Clear x) ∧ Below w.heap.size w wr) (fun _ iv _ => l.length - (intOf iv).toNat)
  case atStart => exact ⟨0, ⟨#[]⟩, by omega, rfl, rfl, rfl, by decide, by intro x hx; simp at hx, hb1⟩
  case round =>
    obtain ⟨k, s, hk, rfl, rfl, hs, hsz, hcl, hb⟩ := hrel
    by_cases hlt : k < l.length
    · obtain ⟨ad, rfl, q0⟩ := Kd.at_string (Kd.C_below hr hb) (k : Int) (by omega) (by omega)
      have hx0 : rdOf ByteArray.empty l (k : Int) = l[k] := by simp [rdOf, List.getD_eq_getElem?_getD, List.getElem?_eq_getElem hlt]
      rw [hx0] at q0
      simp only [Int.toNat_natCast] at q0
      clear hx0
      obtain ⟨x, hx⟩ : ∃ x, x = l[k] := ⟨_, rfl⟩
      rw [← hx] at q0
      have HX := Lib.hid hx
      clear hx
      by_cases h100 : x.size ≤ 100
      · have d1 : decide ((100 : Int) < (x.size : Int)) = false := decide_eq_false (by omega)
        have hcx : Hid (∀ b, b ∈ x.data.toList.take 0 → b ≠ 10 ∧ b ≠ 13) := fun b hb => by simp at hb
        go_wp2
        go_loopw [8] (fun jv wq => ∃ j : Nat, j ≤ x.size ∧ jv = .int .i64 j ∧ Hid (∀ b, b ∈ x.data.toList.take j → b ≠ 10 ∧ b ≠ 13) ∧ wq = wr) (fun jv _ => x.size - (intOf jv).toNat)
        case atStart => exact ⟨0, by omega, rfl, hcx, rfl⟩
        case round =>
          obtain ⟨j, hj, rfl, hcj, rfl⟩ := hrel
          by_cases hjl : j < x.size
          · have hbt : ∀ h : j < x.size, ((x[j]'h).toNat : Int) = bt x (j : Int) := fun h => by have := bt_at x j; simpa using this h
            have hnext := fun h1 h2 => takeClear hjl hcj.out h1 h2
            generalize bt x (j : Int) = y at hbt hnext
            by_cases h10 : y = 10
            · have e10 : (y == 10) = true := by simp [h10]
              clear hnext h10
              go_wp2
              try rw [Exit.noGoto_ret]
              go_ret
              exact ⟨rfl, hb⟩
            · have e10 : (y == 10) = false := by simp [h10]
              by_cases h13 : y = 13
              · have e13 : (y == 13) = true := by simp [h13]
                clear hnext h10 h13
                go_wp2
                try rw [Exit.noGoto_ret]
                go_ret
                exact ⟨rfl, hb⟩
              · have e13 : (y == 13) = false := by simp [h13]
                have HN := Lib.hid (hnext h10 h13)
                clear hnext h10 h13
                go_wp2
                exact ⟨⟨j + 1, by omega, by go_num, HN, trivial⟩, by simp [intOf]; omega⟩
          · obtain rfl : j = x.size := by omega
            have hcx2 : Clear x := by have := hcj.out; rwa [List.take_of_length_le (by rw [size_len]; omega)] at this
            have hnew : (s ++ x) ++ endB long = joinB long (l.take (k + 1)) := by
              rw [List.take_succ_eq_append_getElem hlt, joinB_snoc, ← hs.out, HX.out]
            have hclN : ∀ z, z ∈ l.take (k + 1) → Clear z := by
              intro z hz
              rw [List.take_succ_eq_append_getElem hlt] at hz
              rcases List.mem_append.1 hz with hz | hz
              · exact hcl.out z hz
              · rw [List.mem_singleton.1 hz, ← HX.out]; exact hcx2
            have HNEW := Lib.hid hnew
            have HCN := Lib.hid hclN
            clear hnew hclN hcx2 hcj hcl hcx hs
            have z1 : decide (s.size + x.size ≤ 9223372036854775807) = true := decide_eq_true (by omega)
            cases long with
            | true =>
              go_wp2
              exact ⟨⟨k + 1, _, by omega, by go_num, rfl, HNEW, by rw [ByteArray.size_append, ByteArray.size_append, show (⟨#[13, 10]⟩ : ByteArray).size = 2 from rfl]; omega, HCN, hb⟩, by simp [intOf]; omega⟩
            | false =>
              go_wp2
              exact ⟨⟨k + 1, _, by omega, by go_num, rfl, HNEW, by rw [ByteArray.size_append, ByteArray.size_append, show (⟨#[10]⟩ : ByteArray).size = 1 from rfl]; omega, HCN, hb⟩, by simp [intOf]; omega⟩
      · have d1 : decide ((100 : Int) < (x.size : Int)) = true := decide_eq_true (by omega)
        go_wp2
        go_ret
        exact ⟨rfl, hb⟩
    · obtain rfl : k = l.length := by omega
      rw [List.take_length] at hs hcl
      have hlr : Spl.linesR s = l := by rw [hs.out]; exact joinB_lines long l hcl.out
      have hlw := Spl.lines_walk s wr (by omega)
      rw [hlr] at hlw
      clear hlr hs hcl
      go_wp2_with (fail)
      refine hlw.mono ?_
      rintro e w2 ⟨v2, rfl, ho2, hb2⟩
      have hb2' : Below w.heap.size w w2 := hb.trans (hb2.mono hb.size)
      obtain ⟨B2, d2', rfl⟩ := Kd.R_slice ho2
      have hy2 := (Kd.R_reads' ho2).2.2
      have hz2 := (Kd.R_reads' ho2).2.1
      clear ho2 hb2
      go_wp2_with (fail)
      refine (lanyardref02_Same.calls 100 B2 d2' l A c l true w2 hy2 hz2 (Kd.C_below hr hb2') hc (same_f l (by omega) 100 (by omega))).mono ?_
      rintro e w3 ⟨rfl, hb3⟩
      have hb3' : Below w.heap.size w w3 := hb2'.trans (hb3.below.mono hb2'.size)
      go_wp2
      go_ret
      exact ⟨rfl, hb3'⟩

set_option maxHeartbeats 8000000 in
set_option maxRecDepth 100000 in
theorem joined_all (A : Option Addr) (c : Nat) (l : List ByteArray) (long : Bool) (w : World) (hr : Kd.C Kd.string w A l.length l) (hc : l.length ≤ c) :
    Calls Tryd.prog 3 #[.slice A l.length c, .bool long] w fun e w' => e = .returned (.bool true) ∧ Below w.heap.size w w' := by
  by_cases hl : l.length ≤ 50
  · exact joined_walk A c l long w hr hc hl
  · have d0 : decide ((50 : Int) < (l.length : Int)) = true := decide_eq_true (by omega)
    clear hr hl
    go_enter Tryd.func3, Tryd.ntmps3
    go_wp2_with (fail)
    refine (lanyardlaw02_awake.calls true w rfl).mono ?_
    rintro e w1 ⟨rfl, hb1⟩
    go_wp2
    go_ret
    exact ⟨rfl, hb1⟩

end Go.Proofs.YtbbikibgfpokpaaDoor.LinQ
